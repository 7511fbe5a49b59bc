/-
  Lemmas, part 6 of 6: walks through the program's functions, and plain Lean about what they compute.
-/
import Derived.ProofKit
import Derived.OpenShut
import Derived.Deep.Slices
import Derived.ChangeArms
import Derived.Carry
import Derived.Test.YtmindblfbijaaaaDoorRows
import Derived.OpenVars
import Derived.LaidMore
import Derived.Lay
import Derived.LaidLaws
import Derived.Handed
import Derived.Clock
import Derived.SevenTiedAt
import Derived.Test.YtmindblfbijaaaaDoorZ1
import Derived.Test.YtmindblfbijaaaaDoorZ2
import Derived.Test.YtmindblfbijaaaaDoorZ3
import Derived.Test.YtmindblfbijaaaaDoorZ4
import Derived.Test.YtmindblfbijaaaaDoorZ5
set_option linter.unnecessarySimpa false
set_option linter.unusedSimpArgs false
set_option linter.unusedVariables false
namespace Go.Proofs.YtmindblfbijaaaaDoor
open Go.RowKit
set_option maxRecDepth 100000
theorem rd_remN (P : Program) (t : TypeId) (x y : Operand) (k : IntKind) (a b : Nat) (h : 0 < b) : reck P (do eqGuard .rem t x y (.int k a) (.int k b); binOp .rem t (.int k a) (.int k b)) = some (.int k ((a % b : Nat) : Int)) := by
  rw [rd_rem P t x y k (by omega) (by omega)]; norm_cast
theorem build_three (a b c : Int) : buildS Tryd.prog 28 [(0, V.d (.v (.int .u8 a))), (1, V.d (.v (.int .u8 b))), (2, V.d (.v (.int .u8 c)))] = some (.d (.agg 32 ([.v (.int .u8 a), .v (.int .u8 b), .v (.int .u8 c)] ++ List.replicate 29 (.v (.int .u8 0))))) := by kernel_rfl
theorem set_row (p : List (List UInt8)) (k : Nat) (s : List UInt8) : (List.map (fun r => List.map V.d r) (List.map rowS p)).set k (List.map V.d (rowS s)) = List.map (fun r => List.map V.d r) (List.map rowS (p.set k s)) := by
  rw [List.map_set, List.map_set]
theorem storeRow (h : List (Nat × Blk)) (l k : Nat) (p : List (List UInt8)) (s : List UInt8) (hl : look h l = some (dB 32 (p.map rowS))) (hk : k < p.length) : storeS Tryd.prog h 28 (.ref l k 0) (.d (.agg 32 (rowS s))) = some (.upd l (dB 32 ((p.set k s).map rowS))) := by
  have hr : (dB 32 (p.map rowS)).rows[k]? = some ((rowS p[k]).map V.d) := by simp [hk]
  simp only [storeS, hl, Option.bind_some, hr, cellsV, sz28]
  rw [if_pos (by simp), if_pos (by simp)]
  rw [set_row]
def five (w0 w1 w2 w3 w4 : Nat) : D := .agg 5 [.v (.int .u16 w0), .v (.int .u16 w1), .v (.int .u16 w2), .v (.int .u16 w3), .v (.int .u16 w4)]
theorem len32_set {p : List (List UInt8)} (h : Len32' p) (k : Nat) {s : List UInt8} (hs : s.length = 32) : Len32' (p.set k s) := by
  intro x hx
  rcases List.mem_or_eq_of_mem_set hx with h1 | h1
  · exact h x h1
  · rw [h1]; exact hs
theorem ze_sums : zeroD Tryd.prog 32 = some [.list 0 [] true] := by kernel_rfl

theorem binds_D (xs : List (List UInt8)) (y : List UInt8) (w0 w1 w2 w3 w4 : Nat) (hx : xs.length ≤ 9223372036854775807) (hy : y.length ≤ 9223372036854775807) (hw0 : w0 ≤ 65535) (hw1 : w1 ≤ 65535) (hw2 : w2 ≤ 65535) (hw3 : w3 ≤ 65535) (hw4 : w4 ≤ 65535) :
    CallsD Tryd.prog HG 5 [elemsL xs, bytesL y, five w0 w1 w2 w3 w4] (.v (.bool true)) := by
  obtain ⟨hF', hl⟩ := fit_elems xs
  simp only [five]
  by_cases h0 : (elems xs).length = 0
  · refine CallsD.of Tryd.func5 rfl Tryd.ntmps5 (by simp) ?_; intro F hF; simp only [List.zipIdx_cons, List.zipIdx_nil, List.map_cons, List.map_nil, Nat.zero_add, Nat.reduceAdd]
    refine Sm.seq ?_
    refine Sm.regionG hF rfl ?_
    refine SmG.new hF rfl rfl rfl (opS_box rfl rfl (by simp (disch := omega) only [go_sem, Nat.reduceEqDiff, iteP, elemsL, bytesL] <;> rfl)) ?_
    refine SmG.v hF rfl rfl rfl (opV_assign rfl rfl) ?_
    refine SmG.nil ?_
    refine nextS_normal ?_
    refine Sm.seq ?_
    refine Sm.regionG hF rfl ?_
    refine SmG.call hF rfl rfl (by kernel_rfl) rfl rfl rfl (sanity_D) ?_
    refine SmG.v hF rfl rfl rfl (opV_assign rfl rfl) ?_
    refine SmG.nil ?_
    refine nextS_normal ?_
    refine Sm.seq ?_
    refine Sm.regionG hF rfl ?_
    refine SmG.v hF rfl rfl rfl (opV_move rfl rfl) ?_
    refine SmG.call hF rfl rfl (by kernel_rfl) rfl rfl rfl (elements_D xs hx) ?_
    refine SmG.v hF rfl rfl rfl (opV_assign rfl rfl) ?_
    refine SmG.nil ?_
    refine nextS_normal ?_
    refine Sm.seq ?_
    refine Sm.seq ?_
    refine Sm.regionG hF rfl ?_
    refine SmG.v hF rfl rfl rfl (opV_move rfl rfl) ?_
    refine SmG.v hF rfl rfl rfl (opV_len rfl rfl (by simp (disch := omega) only [go_sem, Nat.reduceEqDiff, iteP, elemsL, bytesL] <;> rfl)) ?_
    refine SmG.v hF rfl rfl rfl (opV_bin rfl rfl rfl (by first | exact rd_eqlT _ _ _ _ _ (by omega) | exact rd_eqlF _ _ _ _ _ (by omega) | exact rb_eql _ _ _ _ _ _ _)) ?_
    refine SmG.v hF rfl rfl rfl (opV_move rfl rfl) ?_
    first | refine SmG.v hF rfl rfl rfl (opV_move rfl rfl) ?_ | refine SmG.pass hF rfl rfl rfl ?_
    first | refine SmG.v hF rfl rfl rfl (opV_len rfl rfl (by simp (disch := omega) only [go_sem, Nat.reduceEqDiff, iteP, elemsL, bytesL] <;> rfl)) ?_ | refine SmG.pass hF rfl rfl rfl ?_
    first | refine SmG.v hF rfl rfl rfl (opV_bin rfl rfl rfl (by first | exact rd_gtrT _ _ _ _ _ (by omega) | exact rd_gtrF _ _ _ _ _ (by omega) | exact rb_gtr _ _ _ _ _ _ _)) ?_ | refine SmG.pass hF rfl rfl rfl ?_
    first | refine SmG.v hF rfl rfl rfl (opV_pickT rfl rfl rfl) ?_ | refine SmG.v hF rfl rfl rfl (opV_pickF rfl rfl rfl) ?_
    refine SmG.nil ?_
    refine nextS_normal ?_
    refine Sm.condT hF rfl ?_
    refine Sm.seq ?_
    refine Sm.regionG hF rfl ?_
    refine SmG.v hF rfl rfl rfl (opV_move rfl rfl) ?_
    refine SmG.v hF rfl rfl rfl (opV_assign rfl rfl) ?_
    refine SmG.nil ?_
    refine nextS_normal ?_
    refine Sm.ret ?_
    simp only [nextS, blockS]
    refine ⟨_, rfl, ?_⟩; dsimp only
    exact D.le.refl _
  by_cases hy40 : 40 < y.length
  · refine CallsD.of Tryd.func5 rfl Tryd.ntmps5 (by simp) ?_; intro F hF; simp only [List.zipIdx_cons, List.zipIdx_nil, List.map_cons, List.map_nil, Nat.zero_add, Nat.reduceAdd]
    refine Sm.seq ?_
    refine Sm.regionG hF rfl ?_
    refine SmG.new hF rfl rfl rfl (opS_box rfl rfl (by simp (disch := omega) only [go_sem, Nat.reduceEqDiff, iteP, elemsL, bytesL] <;> rfl)) ?_
    refine SmG.v hF rfl rfl rfl (opV_assign rfl rfl) ?_
    refine SmG.nil ?_
    refine nextS_normal ?_
    refine Sm.seq ?_
    refine Sm.regionG hF rfl ?_
    refine SmG.call hF rfl rfl (by kernel_rfl) rfl rfl rfl (sanity_D) ?_
    refine SmG.v hF rfl rfl rfl (opV_assign rfl rfl) ?_
    refine SmG.nil ?_
    refine nextS_normal ?_
    refine Sm.seq ?_
    refine Sm.regionG hF rfl ?_
    refine SmG.v hF rfl rfl rfl (opV_move rfl rfl) ?_
    refine SmG.call hF rfl rfl (by kernel_rfl) rfl rfl rfl (elements_D xs hx) ?_
    refine SmG.v hF rfl rfl rfl (opV_assign rfl rfl) ?_
    refine SmG.nil ?_
    refine nextS_normal ?_
    refine Sm.seq ?_
    refine Sm.seq ?_
    refine Sm.regionG hF rfl ?_
    refine SmG.v hF rfl rfl rfl (opV_move rfl rfl) ?_
    refine SmG.v hF rfl rfl rfl (opV_len rfl rfl (by simp (disch := omega) only [go_sem, Nat.reduceEqDiff, iteP, elemsL, bytesL] <;> rfl)) ?_
    refine SmG.v hF rfl rfl rfl (opV_bin rfl rfl rfl (by first | exact rd_eqlT _ _ _ _ _ (by omega) | exact rd_eqlF _ _ _ _ _ (by omega) | exact rb_eql _ _ _ _ _ _ _)) ?_
    refine SmG.v hF rfl rfl rfl (opV_move rfl rfl) ?_
    first | refine SmG.v hF rfl rfl rfl (opV_move rfl rfl) ?_ | refine SmG.pass hF rfl rfl rfl ?_
    first | refine SmG.v hF rfl rfl rfl (opV_len rfl rfl (by simp (disch := omega) only [go_sem, Nat.reduceEqDiff, iteP, elemsL, bytesL] <;> rfl)) ?_ | refine SmG.pass hF rfl rfl rfl ?_
    first | refine SmG.v hF rfl rfl rfl (opV_bin rfl rfl rfl (by first | exact rd_gtrT _ _ _ _ _ (by omega) | exact rd_gtrF _ _ _ _ _ (by omega) | exact rb_gtr _ _ _ _ _ _ _)) ?_ | refine SmG.pass hF rfl rfl rfl ?_
    first | refine SmG.v hF rfl rfl rfl (opV_pickT rfl rfl rfl) ?_ | refine SmG.v hF rfl rfl rfl (opV_pickF rfl rfl rfl) ?_
    refine SmG.nil ?_
    refine nextS_normal ?_
    refine Sm.condT hF rfl ?_
    refine Sm.seq ?_
    refine Sm.regionG hF rfl ?_
    refine SmG.v hF rfl rfl rfl (opV_move rfl rfl) ?_
    refine SmG.v hF rfl rfl rfl (opV_assign rfl rfl) ?_
    refine SmG.nil ?_
    refine nextS_normal ?_
    refine Sm.ret ?_
    simp only [nextS, blockS]
    refine ⟨_, rfl, ?_⟩; dsimp only
    exact D.le.refl _
  refine CallsD.of Tryd.func5 rfl Tryd.ntmps5 (by simp) ?_; intro F hF; simp only [List.zipIdx_cons, List.zipIdx_nil, List.map_cons, List.map_nil, Nat.zero_add, Nat.reduceAdd]
  refine Sm.seq ?_
  refine Sm.regionG hF rfl ?_
  refine SmG.new hF rfl rfl rfl (opS_box rfl rfl (by simp (disch := omega) only [go_sem, Nat.reduceEqDiff, iteP, elemsL, bytesL] <;> rfl)) ?_
  refine SmG.v hF rfl rfl rfl (opV_assign rfl rfl) ?_
  refine SmG.nil ?_
  refine nextS_normal ?_
  refine Sm.seq ?_
  refine Sm.regionG hF rfl ?_
  refine SmG.call hF rfl rfl (by kernel_rfl) rfl rfl rfl (sanity_D) ?_
  refine SmG.v hF rfl rfl rfl (opV_assign rfl rfl) ?_
  refine SmG.nil ?_
  refine nextS_normal ?_
  refine Sm.seq ?_
  refine Sm.regionG hF rfl ?_
  refine SmG.v hF rfl rfl rfl (opV_move rfl rfl) ?_
  refine SmG.call hF rfl rfl (by kernel_rfl) rfl rfl rfl (elements_D xs hx) ?_
  refine SmG.v hF rfl rfl rfl (opV_assign rfl rfl) ?_
  refine SmG.nil ?_
  refine nextS_normal ?_
  refine Sm.seq ?_
  refine Sm.seq ?_
  refine Sm.regionG hF rfl ?_
  refine SmG.v hF rfl rfl rfl (opV_move rfl rfl) ?_
  refine SmG.v hF rfl rfl rfl (opV_len rfl rfl (by simp (disch := omega) only [go_sem, Nat.reduceEqDiff, iteP, elemsL, bytesL] <;> rfl)) ?_
  refine SmG.v hF rfl rfl rfl (opV_bin rfl rfl rfl (by first | exact rd_eqlT _ _ _ _ _ (by omega) | exact rd_eqlF _ _ _ _ _ (by omega) | exact rb_eql _ _ _ _ _ _ _)) ?_
  refine SmG.v hF rfl rfl rfl (opV_move rfl rfl) ?_
  first | refine SmG.v hF rfl rfl rfl (opV_move rfl rfl) ?_ | refine SmG.pass hF rfl rfl rfl ?_
  first | refine SmG.v hF rfl rfl rfl (opV_len rfl rfl (by simp (disch := omega) only [go_sem, Nat.reduceEqDiff, iteP, elemsL, bytesL] <;> rfl)) ?_ | refine SmG.pass hF rfl rfl rfl ?_
  first | refine SmG.v hF rfl rfl rfl (opV_bin rfl rfl rfl (by first | exact rd_gtrT _ _ _ _ _ (by omega) | exact rd_gtrF _ _ _ _ _ (by omega) | exact rb_gtr _ _ _ _ _ _ _)) ?_ | refine SmG.pass hF rfl rfl rfl ?_
  first | refine SmG.v hF rfl rfl rfl (opV_pickT rfl rfl rfl) ?_ | refine SmG.v hF rfl rfl rfl (opV_pickF rfl rfl rfl) ?_
  refine SmG.nil ?_
  refine nextS_normal ?_
  generalize elems xs = l at hF' hl h0 ⊢
  have hi : w0 % l.length < l.length := Nat.mod_lt _ (by omega)
  have c0 := proof_D l (w0 % l.length) hF' hi
  have cr := root_D l hF'
  have hR := Sha.root_len l
  have hli : l[w0 % l.length]? = some l[w0 % l.length] := by simp
  have hck := Sha.check_proof hli
  have hP : Len32' (Sha.proof l (w0 % l.length)) := proof_len32' l _
  have hPl := Sha.proof_pow 4 l (w0 % l.length) (by omega)
  have hb := hF'.2 _ (List.getElem_mem hi)
  generalize l[w0 % l.length] = b at hli hck hb
  generalize Sha.proof l (w0 % l.length) = p at c0 hck hP hPl
  generalize Sha.root l = R at cr hR hck

  refine Sm.condF hF rfl ?_
  refine Sm.skip ?_
  refine nextS_normal ?_
  refine Sm.seq ?_
  refine Sm.regionG hF rfl ?_
  refine SmG.v hF rfl rfl rfl (opV_indexAddr rfl rfl rfl (by simp (disch := omega) only [go_sem, Nat.reduceEqDiff, iteP, elemsL, sumsL, sumD, sumD_length, hR] <;> rfl)) ?_
  refine SmG.v hF rfl rfl rfl (opV_load rfl rfl (by simp (disch := omega) only [go_sem, Nat.reduceEqDiff, iteP, elemsL, sumsL, sumD, sumD_length, hR] <;> rfl)) ?_
  refine SmG.v hF rfl rfl rfl (opV_conv rfl rfl (by first | exact convS_int rfl rfl (wrapI64 _ (by omega)) | (simp (disch := omega) only [go_sem, elemsL, sumsL, sumD, sumD_length, hR] <;> rfl))) ?_
  refine SmG.v hF rfl rfl rfl (opV_move rfl rfl) ?_
  refine SmG.v hF rfl rfl rfl (opV_len rfl rfl (by simp (disch := omega) only [go_sem, Nat.reduceEqDiff, iteP, elemsL, sumsL, sumD, sumD_length, hR] <;> rfl)) ?_
  refine SmG.v hF rfl rfl rfl (opV_bin rfl rfl rfl (rd_remN _ _ _ _ _ _ _ (by omega))) ?_
  refine SmG.v hF rfl rfl rfl (opV_assign rfl rfl) ?_
  refine SmG.nil ?_
  refine nextS_normal ?_
  refine Sm.seq ?_
  refine Sm.regionG hF rfl ?_
  refine SmG.v hF rfl rfl rfl (opV_move rfl rfl) ?_
  refine SmG.v hF rfl rfl rfl (opV_move rfl rfl) ?_
  refine SmG.call hF rfl rfl (by kernel_rfl) rfl rfl rfl (c0) ?_
  refine SmG.v hF rfl rfl rfl (opV_move rfl rfl) ?_
  refine SmG.v hF rfl rfl rfl (by first | exact opV_extract rfl rfl rfl | exact opV_extract0 rfl rfl) ?_
  refine SmG.v hF rfl rfl rfl (by first | exact opV_extract rfl rfl rfl | exact opV_extractS rfl rfl rfl) ?_
  refine SmG.v hF rfl rfl rfl (opV_assign rfl rfl) ?_
  refine SmG.v hF rfl rfl rfl (opV_assign rfl rfl) ?_
  refine SmG.nil ?_
  refine nextS_normal ?_
  refine Sm.seq ?_
  refine Sm.regionG hF rfl ?_
  refine SmG.v hF rfl rfl rfl (opV_move rfl rfl) ?_
  refine SmG.call hF rfl rfl (by kernel_rfl) rfl rfl rfl (cr) ?_
  refine SmG.new hF rfl rfl rfl (opS_alloc rfl al28) ?_
  refine SmG.store hF rfl rfl rfl rfl rfl (by simp (disch := omega) only [go_sem, Nat.reduceEqDiff, iteP, elemsL, sumsL, sumD, sumD_length, hR] <;> rfl) ?_
  refine SmG.nil ?_
  refine nextS_normal ?_
  refine Sm.seq ?_
  refine Sm.seq ?_
  refine Sm.regionG hF rfl ?_
  refine SmG.v hF rfl rfl rfl (opV_move rfl rfl) ?_
  refine SmG.v hF rfl rfl rfl (opV_bin rfl rfl rfl (by first | exact rd_neqT _ _ _ _ _ (by omega) | exact rd_neqF _ _ _ _ _ (by omega) | exact rb_neq _ _ _ _ _ _ _)) ?_
  refine SmG.v hF rfl rfl rfl (opV_move rfl rfl) ?_
  first | refine SmG.v hF rfl rfl rfl (opV_move rfl rfl) ?_ | refine SmG.pass hF rfl rfl rfl ?_
  first | refine SmG.v hF rfl rfl rfl (opV_len rfl rfl (by simp (disch := omega) only [go_sem, Nat.reduceEqDiff, iteP, elemsL, sumsL, sumD, sumD_length, hR] <;> rfl)) ?_ | refine SmG.pass hF rfl rfl rfl ?_
  first | refine SmG.v hF rfl rfl rfl (opV_bin rfl rfl rfl (by first | exact rd_gtrT _ _ _ _ _ (by omega) | exact rd_gtrF _ _ _ _ _ (by omega) | exact rb_gtr _ _ _ _ _ _ _)) ?_ | refine SmG.pass hF rfl rfl rfl ?_
  first | refine SmG.v hF rfl rfl rfl (opV_pickT rfl rfl rfl) ?_ | refine SmG.v hF rfl rfl rfl (opV_pickF rfl rfl rfl) ?_
  refine SmG.nil ?_
  refine nextS_normal ?_
  refine Sm.condF hF rfl ?_
  refine Sm.skip ?_
  refine nextS_normal ?_
  refine Sm.seq ?_
  refine Sm.regionG hF rfl ?_
  refine SmG.v hF rfl rfl rfl (opV_buildSlice rfl rfl (by simp (disch := omega) only [go_sem, Nat.reduceEqDiff, iteP, elemsL, sumsL, sumD, sumD_length, hR] <;> rfl)) ?_
  refine SmG.v hF rfl rfl rfl (opV_move rfl rfl) ?_
  -- stands at 55 of region 10: {"dst": 55, "op": "call", "a": [{"callee": ["builtin", "Callee.builtin Builtin.append"], "args": [["tmp", 53], ["tmp", 54]], "types": [32, 32]}], "ty"
  refine SmG.appendFresh hF elSum rfl rfl rfl rfl rfl rfl (Or.inl rfl) (by simp only [List.length_map]; omega) (by simp only [List.length_map]; omega) ?_
  generalize hii : w0 % l.length = i at c0 hi hli hck
  refine SmG.v hF rfl rfl rfl (opV_assign rfl rfl) ?_
  refine SmG.nil ?_
  refine nextS_normal ?_
  refine Sm.seq ?_
  refine Sm.seq ?_
  refine Sm.regionG hF rfl ?_
  refine SmG.v hF rfl rfl rfl (opV_move rfl rfl) ?_
  refine SmG.v hF rfl rfl rfl (opV_len rfl rfl (by simp (disch := omega) only [go_sem, Nat.reduceEqDiff, iteP, elemsL, sumsL, sumD, sumD_length, hR] <;> rfl)) ?_
  refine SmG.v hF rfl rfl rfl (opV_bin rfl rfl rfl (by first | exact rd_gtrT _ _ _ _ _ (by omega) | exact rd_gtrF _ _ _ _ _ (by omega) | exact rb_gtr _ _ _ _ _ _ _)) ?_
  refine SmG.nil ?_
  refine nextS_normal ?_

  refine Sm.join (ι := {q : List (List UInt8) // Len32' q ∧ q.length = p.length}) (fun q => ⟨[(1, .d (bytesL y)), (7, .d (.v (.bool true))), (8, .d (elemsL l)), (9, .d (.v (.int .i64 i))), (10, .d (sumsL p)), (12, .ref 1 0 0), (13, .sref 2 0 (q.1.map rowS).length)], [(2, dB 32 (q.1.map rowS)), (1, dB 32 [rowS R])], 3⟩) ?_ ?_
  rotate_left
  · by_cases hp0 : 0 < p.length
    · generalize hkk : w1 % p.length = k
      have hk : k < p.length := by rw [← hkk]; exact Nat.mod_lt _ hp0
      have hst := fun h hl => storeRow h 2 k p ([UInt8.ofNat w2, UInt8.ofNat w3, UInt8.ofNat w4] ++ List.replicate 29 0) hl hk

      rw [show decide ((0 : Int) < (p.length : Int)) = true from decide_eq_true (by omega)]
      refine Sm.condT hF rfl ?_
      refine Sm.seq ?_
      refine Sm.regionG hF rfl ?_
      refine SmG.v hF rfl rfl rfl (opV_indexAddr rfl rfl rfl (by simp (disch := omega) only [go_sem, Nat.reduceEqDiff, iteP, elemsL, sumsL, sumD, sumD_length, hR] <;> rfl)) ?_
      refine SmG.v hF rfl rfl rfl (opV_load rfl rfl (by simp (disch := omega) only [go_sem, Nat.reduceEqDiff, iteP, elemsL, sumsL, sumD, sumD_length, hR] <;> rfl)) ?_
      refine SmG.v hF rfl rfl rfl (opV_conv rfl rfl (by first | exact convS_int rfl rfl (wrapI64 _ (by omega)) | (simp (disch := omega) only [go_sem, elemsL, sumsL, sumD, sumD_length, hR] <;> rfl))) ?_
      refine SmG.v hF rfl rfl rfl (opV_move rfl rfl) ?_
      refine SmG.v hF rfl rfl rfl (opV_len rfl rfl (by simp (disch := omega) only [go_sem, Nat.reduceEqDiff, iteP, elemsL, sumsL, sumD, sumD_length, hR] <;> rfl)) ?_
      refine SmG.v hF rfl rfl rfl (opV_bin rfl rfl rfl ((rd_remN _ _ _ _ _ _ _ (by omega)).trans (by rw [hkk]))) ?_
      refine SmG.v hF rfl rfl rfl (opV_assign rfl rfl) ?_
      refine SmG.nil ?_
      refine nextS_normal ?_
      refine Sm.regionG hF rfl ?_
      refine SmG.v hF rfl rfl rfl (opV_move rfl rfl) ?_
      refine SmG.v hF rfl rfl rfl (opV_move rfl rfl) ?_
      refine SmG.v hF rfl rfl rfl (opV_indexAddr rfl rfl rfl (by simp (disch := omega) only [go_sem, Nat.reduceEqDiff, iteP, elemsL, sumsL, sumD, sumD_length, hR] <;> rfl)) ?_
      refine SmG.v hF rfl rfl rfl (opV_load rfl rfl (by simp (disch := omega) only [go_sem, Nat.reduceEqDiff, iteP, elemsL, sumsL, sumD, sumD_length, hR] <;> rfl)) ?_
      refine SmG.v hF rfl rfl rfl (opV_conv rfl rfl (conv_u8 _ Tryd.underlying45 Tryd.underlying5)) ?_
      refine SmG.v hF rfl rfl rfl (opV_indexAddr rfl rfl rfl (by simp (disch := omega) only [go_sem, Nat.reduceEqDiff, iteP, elemsL, sumsL, sumD, sumD_length, hR] <;> rfl)) ?_
      refine SmG.v hF rfl rfl rfl (opV_load rfl rfl (by simp (disch := omega) only [go_sem, Nat.reduceEqDiff, iteP, elemsL, sumsL, sumD, sumD_length, hR] <;> rfl)) ?_
      refine SmG.v hF rfl rfl rfl (opV_conv rfl rfl (conv_u8 _ Tryd.underlying45 Tryd.underlying5)) ?_
      refine SmG.v hF rfl rfl rfl (opV_indexAddr rfl rfl rfl (by simp (disch := omega) only [go_sem, Nat.reduceEqDiff, iteP, elemsL, sumsL, sumD, sumD_length, hR] <;> rfl)) ?_
      refine SmG.v hF rfl rfl rfl (opV_load rfl rfl (by simp (disch := omega) only [go_sem, Nat.reduceEqDiff, iteP, elemsL, sumsL, sumD, sumD_length, hR] <;> rfl)) ?_
      refine SmG.v hF rfl rfl rfl (opV_conv rfl rfl (conv_u8 _ Tryd.underlying45 Tryd.underlying5)) ?_
      refine SmG.v hF rfl rfl rfl (opV_buildA rfl Tryd.underlying28 rfl (show _ = some (.d (.agg 32 (rowS ([UInt8.ofNat w2, UInt8.ofNat w3, UInt8.ofNat w4] ++ List.replicate 29 0)))) from build_three _ _ _)) ?_
      refine SmG.v hF rfl rfl rfl (opV_indexAddr rfl rfl rfl (by simp (disch := omega) only [go_sem, Nat.reduceEqDiff, iteP, elemsL, sumsL, sumD, sumD_length, hR] <;> rfl)) ?_
      refine SmG.store hF rfl rfl rfl rfl rfl (hst _ rfl) ?_
      refine SmG.nil ?_
      refine nextS_normal ?_
      exact ⟨⟨p.set k ([UInt8.ofNat w2, UInt8.ofNat w3, UInt8.ofNat w4] ++ List.replicate 29 0), len32_set hP k (by simp), by simp⟩, by exact St.le_of (by first | (simp [leE, look, constD] <;> omega) | (simp [leE, look, constD, true_and] <;> omega)) (by simp only [leH, look, rep, reduceIte, Nat.reduceEqDiff, List.set_cons_zero, List.set_cons_succ, true_and, and_self, and_true, and_false, false_and, if_true, if_false] <;> (repeat' first | rfl | constructor)) (by first | exact Nat.le_refl _ | (dsimp only; omega))⟩
    · rw [show decide ((0 : Int) < (p.length : Int)) = false from decide_eq_false (by omega)]
      refine Sm.condF hF rfl ?_
      refine Sm.skip ?_
      refine nextS_normal ?_
      exact ⟨⟨p, hP, rfl⟩, by exact St.le_of (by first | (simp [leE, look, constD] <;> omega) | (simp [leE, look, constD, true_and] <;> omega)) (by simp only [leH, look, rep, reduceIte, Nat.reduceEqDiff, List.set_cons_zero, List.set_cons_succ, true_and, and_self, and_true, and_false, false_and, if_true, if_false] <;> (repeat' first | rfl | constructor)) (by first | exact Nat.le_refl _ | (dsimp only; omega))⟩
  rintro ⟨q, hq, hql⟩
  simp only
  refine Sm.freeze (l := 2) _ rfl ?_
  simp only [Pk.v, frzE, frzV, dropH, reduceIte, Nat.reduceAdd, Nat.zero_add, List.length_map, List.length_append, Nat.le_refl, true_and, and_self, if_true, Nat.reduceEqDiff, true_and]

  refine Sm.seq ?_
  refine Sm.regionG hF rfl ?_
  refine SmG.v hF rfl rfl rfl (opV_move rfl rfl) ?_
  refine SmG.v hF rfl rfl rfl (opV_move rfl rfl) ?_
  refine SmG.v hF rfl rfl rfl (opV_indexAddr rfl rfl rfl (by simp (disch := omega) only [go_sem, Nat.reduceEqDiff, iteP, elemsL, bytesL, sumsL, rowE, hli, ze_sums] <;> rfl)) ?_
  refine SmG.v hF rfl rfl rfl (opV_load rfl rfl (by simp (disch := omega) only [go_sem, Nat.reduceEqDiff, iteP, elemsL, bytesL, sumsL, rowE, hli, ze_sums] <;> rfl)) ?_
  refine SmG.v hF rfl rfl rfl (opV_move rfl rfl) ?_
  refine SmG.v hF rfl rfl rfl (opV_buildSlice rfl rfl (by simp (disch := omega) only [go_sem, Nat.reduceEqDiff, iteP, elemsL, bytesL, sumsL, rowE, hli, ze_sums] <;> rfl)) ?_
  refine SmG.v hF rfl rfl rfl (opV_assign rfl rfl) ?_
  refine SmG.nil ?_
  refine nextS_normal ?_
  refine Sm.seq ?_
  refine Sm.regionG hF rfl ?_
  refine SmG.v hF rfl rfl rfl (opV_move rfl rfl) ?_
  refine SmG.v hF rfl rfl rfl (opV_move rfl rfl) ?_
  refine SmG.v hF rfl rfl rfl (opV_buildSlice rfl rfl (by simp (disch := omega) only [go_sem, Nat.reduceEqDiff, iteP, elemsL, bytesL, sumsL, rowE, hli, ze_sums] <;> rfl)) ?_
  refine SmG.v hF rfl rfl rfl (opV_assign rfl rfl) ?_
  refine SmG.nil ?_
  refine nextS_normal ?_
  refine Sm.seq ?_
  refine Sm.seq ?_
  refine Sm.regionG hF rfl ?_
  refine SmG.v hF rfl rfl rfl (opV_assign rfl rfl) ?_
  refine SmG.nil ?_
  refine nextS_normal ?_
  refine Sm.block ?_
  have hE : ∀ a, a < 2 → ∃ e : List UInt8, ([[D.list 1 (List.map rowB b) false], [D.list 1 (List.map rowB y) false]] : List (List D))[a]? = some [D.list 1 (List.map rowB e) false] ∧ e.length ≤ 900000 := by
    intro a ha
    rcases a with _ | _ | a
    · exact ⟨b, rfl, hb⟩
    · exact ⟨y, rfl, by omega⟩
    · omega
  have hQ : ∀ a, a < 2 → ∃ r : List (List UInt8), ([[D.list 32 (List.map rowS p) false], [D.list 32 (List.map rowS q) false]] : List (List D))[a]? = some [D.list 32 (List.map rowS r) false] ∧ Len32' r ∧ r.length ≤ 4 := by
    intro a ha
    rcases a with _ | _ | a
    · exact ⟨p, rfl, hP, hPl⟩
    · exact ⟨q, rfl, hq, by omega⟩
    · omega
  generalize ([[D.list 1 (List.map rowB b) false], [D.list 1 (List.map rowB y) false]] : List (List D)) = EE at hE ⊢
  generalize ([[D.list 32 (List.map rowS p) false], [D.list 32 (List.map rowS q) false]] : List (List D)) = QQ at hQ ⊢

  refine Sm.loop (ι := {a : Nat // a ≤ 2}) (fun a => ⟨[(7, .d (.v (.bool true))), (8, .d (elemsL l)), (9, .d (.v (.int .i64 i))), (10, .d (sumsL p)), (12, .ref 1 0 0), (15, .d (.list 1 EE true)), (16, .d (.list 1 QQ true)), (17, .d (.v (.int .i64 a.1)))], [(1, dB 32 [rowS R])], 3⟩) (fun a => 2 - a.1) (⟨0, by omega⟩) ?_ ?_
  · exact St.le_of (by first | (simp [leE, look, constD] <;> omega) | (simp [leE, look, constD, true_and] <;> omega)) (by simp only [leH, look, rep, reduceIte, Nat.reduceEqDiff, List.set_cons_zero, List.set_cons_succ, true_and, and_self, and_true, and_false, false_and, if_true, if_false] <;> (repeat' first | rfl | constructor)) (by first | exact Nat.le_refl _ | (dsimp only; omega))
  rintro ⟨a, ha⟩
  simp only

  by_cases hlt : a < 2
  · obtain ⟨e, he, hel⟩ := hE a hlt
    refine Sm.seq ?_
    refine Sm.seq ?_
    refine Sm.regionG hF rfl ?_
    refine SmG.v hF rfl rfl rfl (opV_move rfl rfl) ?_
    refine SmG.v hF rfl rfl rfl (opV_bin rfl rfl rfl (by first | exact rd_lssT _ _ _ _ _ (by omega) | exact rd_lssF _ _ _ _ _ (by omega) | exact rb_lss _ _ _ _ _ _ _)) ?_
    refine SmG.nil ?_
    refine nextS_normal ?_
    refine Sm.condT hF rfl ?_
    refine Sm.skip ?_
    refine nextS_normal ?_
    refine Sm.seq ?_
    refine Sm.block ?_
    refine Sm.seq ?_
    refine Sm.regionG hF rfl ?_
    refine SmG.v hF rfl rfl rfl (opV_assign rfl rfl) ?_
    refine SmG.nil ?_
    refine nextS_normal ?_
    refine Sm.block ?_
    refine Sm.loop (ι := {c : Nat // c ≤ 2}) (fun c => ⟨[(7, .d (.v (.bool true))), (8, .d (elemsL l)), (9, .d (.v (.int .i64 i))), (10, .d (sumsL p)), (12, .ref 1 0 0), (15, .d (.list 1 EE true)), (16, .d (.list 1 QQ true)), (17, .d (.v (.int .i64 a))), (18, .d (.v (.int .i64 c.1)))], [(1, dB 32 [rowS R])], 3⟩) (fun c => 2 - c.1) (⟨0, by omega⟩) ?_ ?_
    · exact St.le_of (by simp [leE, look, constD]) (by simp [leH, look, rep]) (by first | exact Nat.le_refl _ | (dsimp only; omega))
    rintro ⟨c, hc⟩
    simp only

    by_cases hlc : c < 2
    · obtain ⟨r, hr, hr32, hrl⟩ := hQ c hlc
      have cs := same_D r p hr32 hP (by omega) (by omega)
      have cc := check_D R e l.length i r hR hel hr32 (by omega) (by omega)
      have k1 := chain_D HG l.length i b p hi (by omega) hb hP (by omega)
      have k2 := chain_D HG l.length i e r hi (by omega) hel hr32 (by omega)
      have k3 := met_D _ _ (chain_fit (Sha.sides l.length i) p b hb hP (by omega)) (chain_fit (Sha.sides l.length i) r e hel hr32 (by omega))
      have hm : Sha.check R l.length i e r = true → ¬ (e = b ∧ r = p) → metB (Sha.chain (0 :: b) ((Sha.sides l.length i).zip p)) (Sha.chain (0 :: e) ((Sha.sides l.length i).zip r)) = true := fun h hne => metB_true (Sha.check_binds hP hr32 hck h hne)

      by_cases heb : e = b
      · have hd : decide (e = b) = true := decide_eq_true heb
        by_cases hrp : r = p
        · rw [decide_eq_true hrp] at cs
          refine Sm.seq ?_
          refine Sm.seq ?_
          refine Sm.regionG hF rfl ?_
          refine SmG.v hF rfl rfl rfl (opV_move rfl rfl) ?_
          refine SmG.v hF rfl rfl rfl (opV_bin rfl rfl rfl (by first | exact rd_lssT _ _ _ _ _ (by omega) | exact rd_lssF _ _ _ _ _ (by omega) | exact rb_lss _ _ _ _ _ _ _)) ?_
          refine SmG.nil ?_
          refine nextS_normal ?_
          refine Sm.condT hF rfl ?_
          refine Sm.skip ?_
          refine nextS_normal ?_
          refine Sm.seq ?_
          refine Sm.block ?_
          refine Sm.seq ?_
          refine Sm.drawG hF (by kernel_rfl) rfl 20 (by kernel_rfl) (by kernel_rfl) ?_
          simp only [List.take_succ_cons, List.take_zero, List.take_nil]
          refine Head.v hF rfl rfl rfl (opV_move rfl rfl) ?_
          refine Head.v hF rfl rfl rfl (opV_move rfl rfl) ?_
          refine Head.v hF rfl rfl rfl (opV_indexAddr rfl rfl rfl (by simp (disch := omega) only [go_sem, Nat.reduceEqDiff, iteP, elemsL, rowE, sumsL, sumD, sumD_length, hR, he, hr, hli] <;> rfl)) ?_
          refine Head.v hF rfl rfl rfl (opV_load rfl rfl (by simp (disch := omega) only [go_sem, Nat.reduceEqDiff, iteP, elemsL, rowE, sumsL, sumD, sumD_length, hR, he, hr, hli] <;> rfl)) ?_
          refine Head.v hF rfl rfl rfl (opV_conv rfl rfl (conv_bytes _ Tryd.underlying22 Tryd.underlying9 Tryd.underlying5)) ?_
          refine Head.v hF rfl rfl rfl (opV_move rfl rfl) ?_
          refine Head.v hF rfl rfl rfl (opV_move rfl rfl) ?_
          refine Head.v hF rfl rfl rfl (opV_indexAddr rfl rfl rfl (by simp (disch := omega) only [go_sem, Nat.reduceEqDiff, iteP, elemsL, rowE, sumsL, sumD, sumD_length, hR, he, hr, hli] <;> rfl)) ?_
          refine Head.v hF rfl rfl rfl (opV_load rfl rfl (by simp (disch := omega) only [go_sem, Nat.reduceEqDiff, iteP, elemsL, rowE, sumsL, sumD, sumD_length, hR, he, hr, hli] <;> rfl)) ?_
          refine Head.v hF rfl rfl rfl (opV_conv rfl rfl (conv_bytes _ Tryd.underlying22 Tryd.underlying9 Tryd.underlying5)) ?_
          refine Head.v hF rfl rfl rfl (opV_bin rfl rfl rfl ((rd_seql _ _ _ _ _ _).trans (by rw [hd]))) ?_
          refine Head.v hF rfl rfl rfl (opV_move rfl rfl) ?_
          first | refine Head.v hF rfl rfl rfl (opV_move rfl rfl) ?_ | refine Head.p hF rfl rfl rfl ?_
          first | refine Head.v hF rfl rfl rfl (opV_move rfl rfl) ?_ | refine Head.p hF rfl rfl rfl ?_
          first | refine Head.v hF rfl rfl rfl (opV_indexAddr rfl rfl rfl (by simp (disch := omega) only [go_sem, Nat.reduceEqDiff, iteP, elemsL, rowE, sumsL, sumD, sumD_length, hR, he, hr, hli] <;> rfl)) ?_ | refine Head.p hF rfl rfl rfl ?_
          first | refine Head.v hF rfl rfl rfl (opV_load rfl rfl (by simp (disch := omega) only [go_sem, Nat.reduceEqDiff, iteP, elemsL, rowE, sumsL, sumD, sumD_length, hR, he, hr, hli] <;> rfl)) ?_ | refine Head.p hF rfl rfl rfl ?_
          first | refine Head.v hF rfl rfl rfl (opV_move rfl rfl) ?_ | refine Head.p hF rfl rfl rfl ?_
          first | refine Head.c hF rfl rfl (by kernel_rfl) rfl rfl rfl (cs) ?_ | refine Head.p hF rfl rfl rfl ?_
          first | refine Head.v hF rfl rfl rfl (opV_pickT rfl rfl rfl) ?_ | refine Head.v hF rfl rfl rfl (opV_pickF rfl rfl rfl) ?_
          refine Head.v hF rfl rfl rfl (opV_assign rfl rfl) ?_
          refine Head.last ⟨rfl, ?_⟩
          simp only [List.drop_succ_cons, List.drop_zero, List.drop_nil, List.nil_append, List.cons_append]
          refine SmG.nil ?_
          refine nextS_normal ?_
          refine Sm.seq ?_
          refine Sm.drawG hF (by kernel_rfl) rfl 42 (by kernel_rfl) (by kernel_rfl) ?_
          simp only [List.take_succ_cons, List.take_zero, List.take_nil]
          refine Head.v hF rfl rfl rfl (opV_move rfl rfl) ?_
          refine Head.v hF rfl rfl rfl (opV_un rfl rfl (by first | exact rd_notT _ | exact rd_notF _ | exact rd_not _)) ?_
          refine Head.v hF rfl rfl rfl (opV_move rfl rfl) ?_
          first | refine Head.v hF rfl rfl rfl (opV_load rfl rfl (by simp (disch := omega) only [go_sem, Nat.reduceEqDiff, iteP, elemsL, rowE, sumsL, sumD, sumD_length, hR, he, hr, hli] <;> rfl)) ?_ | refine Head.p hF rfl rfl rfl ?_
          first | refine Head.v hF rfl rfl rfl (opV_move rfl rfl) ?_ | refine Head.p hF rfl rfl rfl ?_
          first | refine Head.v hF rfl rfl rfl (opV_len rfl rfl (by simp (disch := omega) only [go_sem, Nat.reduceEqDiff, iteP, elemsL, rowE, sumsL, sumD, sumD_length, hR, he, hr, hli] <;> rfl)) ?_ | refine Head.p hF rfl rfl rfl ?_
          first | refine Head.v hF rfl rfl rfl (opV_move rfl rfl) ?_ | refine Head.p hF rfl rfl rfl ?_
          first | refine Head.v hF rfl rfl rfl (opV_move rfl rfl) ?_ | refine Head.p hF rfl rfl rfl ?_
          first | refine Head.v hF rfl rfl rfl (opV_move rfl rfl) ?_ | refine Head.p hF rfl rfl rfl ?_
          first | refine Head.v hF rfl rfl rfl (opV_indexAddr rfl rfl rfl (by simp (disch := omega) only [go_sem, Nat.reduceEqDiff, iteP, elemsL, rowE, sumsL, sumD, sumD_length, hR, he, hr, hli] <;> rfl)) ?_ | refine Head.p hF rfl rfl rfl ?_
          first | refine Head.v hF rfl rfl rfl (opV_load rfl rfl (by simp (disch := omega) only [go_sem, Nat.reduceEqDiff, iteP, elemsL, rowE, sumsL, sumD, sumD_length, hR, he, hr, hli] <;> rfl)) ?_ | refine Head.p hF rfl rfl rfl ?_
          first | refine Head.v hF rfl rfl rfl (opV_move rfl rfl) ?_ | refine Head.p hF rfl rfl rfl ?_
          first | refine Head.v hF rfl rfl rfl (opV_move rfl rfl) ?_ | refine Head.p hF rfl rfl rfl ?_
          first | refine Head.v hF rfl rfl rfl (opV_indexAddr rfl rfl rfl (by simp (disch := omega) only [go_sem, Nat.reduceEqDiff, iteP, elemsL, rowE, sumsL, sumD, sumD_length, hR, he, hr, hli] <;> rfl)) ?_ | refine Head.p hF rfl rfl rfl ?_
          first | refine Head.v hF rfl rfl rfl (opV_load rfl rfl (by simp (disch := omega) only [go_sem, Nat.reduceEqDiff, iteP, elemsL, rowE, sumsL, sumD, sumD_length, hR, he, hr, hli] <;> rfl)) ?_ | refine Head.p hF rfl rfl rfl ?_
          refine Head.p hF rfl rfl rfl ?_
          first | refine Head.v hF rfl rfl rfl (opV_pickT rfl rfl rfl) ?_ | refine Head.v hF rfl rfl rfl (opV_pickF rfl rfl rfl) ?_
          refine Head.v hF rfl rfl rfl (opV_move rfl rfl) ?_
          first | refine Head.v hF rfl rfl rfl (opV_move rfl rfl) ?_ | refine Head.p hF rfl rfl rfl ?_
          first | refine Head.v hF rfl rfl rfl (opV_len rfl rfl (by simp (disch := omega) only [go_sem, Nat.reduceEqDiff, iteP, elemsL, rowE, sumsL, sumD, sumD_length, hR, he, hr, hli] <;> rfl)) ?_ | refine Head.p hF rfl rfl rfl ?_
          first | refine Head.v hF rfl rfl rfl (opV_move rfl rfl) ?_ | refine Head.p hF rfl rfl rfl ?_
          first | refine Head.v hF rfl rfl rfl (opV_move rfl rfl) ?_ | refine Head.p hF rfl rfl rfl ?_
          first | refine Head.v hF rfl rfl rfl (opV_move rfl rfl) ?_ | refine Head.p hF rfl rfl rfl ?_
          first | refine Head.v hF rfl rfl rfl (opV_indexAddr rfl rfl rfl (by simp (disch := omega) only [go_sem, Nat.reduceEqDiff, iteP, elemsL, rowE, sumsL, sumD, sumD_length, hR, he, hr, hli] <;> rfl)) ?_ | refine Head.p hF rfl rfl rfl ?_
          first | refine Head.v hF rfl rfl rfl (opV_load rfl rfl (by simp (disch := omega) only [go_sem, Nat.reduceEqDiff, iteP, elemsL, rowE, sumsL, sumD, sumD_length, hR, he, hr, hli] <;> rfl)) ?_ | refine Head.p hF rfl rfl rfl ?_
          first | refine Head.v hF rfl rfl rfl (opV_move rfl rfl) ?_ | refine Head.p hF rfl rfl rfl ?_
          refine Head.p hF rfl rfl rfl ?_
          first | refine Head.v hF rfl rfl rfl (opV_move rfl rfl) ?_ | refine Head.p hF rfl rfl rfl ?_
          first | refine Head.v hF rfl rfl rfl (opV_len rfl rfl (by simp (disch := omega) only [go_sem, Nat.reduceEqDiff, iteP, elemsL, rowE, sumsL, sumD, sumD_length, hR, he, hr, hli] <;> rfl)) ?_ | refine Head.p hF rfl rfl rfl ?_
          first | refine Head.v hF rfl rfl rfl (opV_move rfl rfl) ?_ | refine Head.p hF rfl rfl rfl ?_
          first | refine Head.v hF rfl rfl rfl (opV_move rfl rfl) ?_ | refine Head.p hF rfl rfl rfl ?_
          first | refine Head.v hF rfl rfl rfl (opV_move rfl rfl) ?_ | refine Head.p hF rfl rfl rfl ?_
          first | refine Head.v hF rfl rfl rfl (opV_indexAddr rfl rfl rfl (by simp (disch := omega) only [go_sem, Nat.reduceEqDiff, iteP, elemsL, rowE, sumsL, sumD, sumD_length, hR, he, hr, hli] <;> rfl)) ?_ | refine Head.p hF rfl rfl rfl ?_
          first | refine Head.v hF rfl rfl rfl (opV_load rfl rfl (by simp (disch := omega) only [go_sem, Nat.reduceEqDiff, iteP, elemsL, rowE, sumsL, sumD, sumD_length, hR, he, hr, hli] <;> rfl)) ?_ | refine Head.p hF rfl rfl rfl ?_
          first | refine Head.v hF rfl rfl rfl (opV_move rfl rfl) ?_ | refine Head.p hF rfl rfl rfl ?_
          first | refine Head.v hF rfl rfl rfl (opV_move rfl rfl) ?_ | refine Head.p hF rfl rfl rfl ?_
          first | refine Head.v hF rfl rfl rfl (opV_indexAddr rfl rfl rfl (by simp (disch := omega) only [go_sem, Nat.reduceEqDiff, iteP, elemsL, rowE, sumsL, sumD, sumD_length, hR, he, hr, hli] <;> rfl)) ?_ | refine Head.p hF rfl rfl rfl ?_
          first | refine Head.v hF rfl rfl rfl (opV_load rfl rfl (by simp (disch := omega) only [go_sem, Nat.reduceEqDiff, iteP, elemsL, rowE, sumsL, sumD, sumD_length, hR, he, hr, hli] <;> rfl)) ?_ | refine Head.p hF rfl rfl rfl ?_
          refine Head.p hF rfl rfl rfl ?_
          refine Head.p hF rfl rfl rfl ?_
          first | refine Head.v hF rfl rfl rfl (opV_un rfl rfl (by first | exact rd_notT _ | exact rd_notF _ | exact rd_not _)) ?_ | refine Head.p hF rfl rfl rfl ?_
          first | refine Head.v hF rfl rfl rfl (opV_pickT rfl rfl rfl) ?_ | refine Head.v hF rfl rfl rfl (opV_pickF rfl rfl rfl) ?_
          refine Head.last ⟨rfl, ?_⟩
          simp only [List.drop_succ_cons, List.drop_zero, List.drop_nil, List.nil_append, List.cons_append]
          refine SmG.nil ?_
          refine nextS_normal ?_
          refine Sm.condF hF rfl ?_
          refine Sm.skip ?_
          refine blockS_normal ?_
          refine nextS_normal ?_
          refine Sm.regionG hF rfl ?_
          refine SmG.v hF rfl rfl rfl (opV_move rfl rfl) ?_
          refine SmG.v hF rfl rfl rfl (opV_bin rfl rfl rfl (by first | exact rd_add _ _ _ _ _ (wrapI64 _ (by omega)) | exact rb_add _ _ _ _ _ _ _)) ?_
          refine SmG.v hF rfl rfl rfl (opV_assign rfl rfl) ?_
          refine SmG.nil ?_
          refine nextS_normal ?_
          exact ⟨⟨c + 1, by omega⟩, by show 2 - (c + 1) < 2 - c; omega, by exact St.le_of (by simp [leE, look, constD]) (by simp [leH, look, rep]) (by first | exact Nat.le_refl _ | (dsimp only; omega))⟩
        · rw [decide_eq_false hrp] at cs
          cases hch : Sha.check R l.length i e r with
          | false =>
            rw [hch] at cc
            refine Sm.seq ?_
            refine Sm.seq ?_
            refine Sm.regionG hF rfl ?_
            refine SmG.v hF rfl rfl rfl (opV_move rfl rfl) ?_
            refine SmG.v hF rfl rfl rfl (opV_bin rfl rfl rfl (by first | exact rd_lssT _ _ _ _ _ (by omega) | exact rd_lssF _ _ _ _ _ (by omega) | exact rb_lss _ _ _ _ _ _ _)) ?_
            refine SmG.nil ?_
            refine nextS_normal ?_
            refine Sm.condT hF rfl ?_
            refine Sm.skip ?_
            refine nextS_normal ?_
            refine Sm.seq ?_
            refine Sm.block ?_
            refine Sm.seq ?_
            refine Sm.drawG hF (by kernel_rfl) rfl 20 (by kernel_rfl) (by kernel_rfl) ?_
            simp only [List.take_succ_cons, List.take_zero, List.take_nil]
            refine Head.v hF rfl rfl rfl (opV_move rfl rfl) ?_
            refine Head.v hF rfl rfl rfl (opV_move rfl rfl) ?_
            refine Head.v hF rfl rfl rfl (opV_indexAddr rfl rfl rfl (by simp (disch := omega) only [go_sem, Nat.reduceEqDiff, iteP, elemsL, rowE, sumsL, sumD, sumD_length, hR, he, hr, hli] <;> rfl)) ?_
            refine Head.v hF rfl rfl rfl (opV_load rfl rfl (by simp (disch := omega) only [go_sem, Nat.reduceEqDiff, iteP, elemsL, rowE, sumsL, sumD, sumD_length, hR, he, hr, hli] <;> rfl)) ?_
            refine Head.v hF rfl rfl rfl (opV_conv rfl rfl (conv_bytes _ Tryd.underlying22 Tryd.underlying9 Tryd.underlying5)) ?_
            refine Head.v hF rfl rfl rfl (opV_move rfl rfl) ?_
            refine Head.v hF rfl rfl rfl (opV_move rfl rfl) ?_
            refine Head.v hF rfl rfl rfl (opV_indexAddr rfl rfl rfl (by simp (disch := omega) only [go_sem, Nat.reduceEqDiff, iteP, elemsL, rowE, sumsL, sumD, sumD_length, hR, he, hr, hli] <;> rfl)) ?_
            refine Head.v hF rfl rfl rfl (opV_load rfl rfl (by simp (disch := omega) only [go_sem, Nat.reduceEqDiff, iteP, elemsL, rowE, sumsL, sumD, sumD_length, hR, he, hr, hli] <;> rfl)) ?_
            refine Head.v hF rfl rfl rfl (opV_conv rfl rfl (conv_bytes _ Tryd.underlying22 Tryd.underlying9 Tryd.underlying5)) ?_
            refine Head.v hF rfl rfl rfl (opV_bin rfl rfl rfl ((rd_seql _ _ _ _ _ _).trans (by rw [hd]))) ?_
            refine Head.v hF rfl rfl rfl (opV_move rfl rfl) ?_
            first | refine Head.v hF rfl rfl rfl (opV_move rfl rfl) ?_ | refine Head.p hF rfl rfl rfl ?_
            first | refine Head.v hF rfl rfl rfl (opV_move rfl rfl) ?_ | refine Head.p hF rfl rfl rfl ?_
            first | refine Head.v hF rfl rfl rfl (opV_indexAddr rfl rfl rfl (by simp (disch := omega) only [go_sem, Nat.reduceEqDiff, iteP, elemsL, rowE, sumsL, sumD, sumD_length, hR, he, hr, hli] <;> rfl)) ?_ | refine Head.p hF rfl rfl rfl ?_
            first | refine Head.v hF rfl rfl rfl (opV_load rfl rfl (by simp (disch := omega) only [go_sem, Nat.reduceEqDiff, iteP, elemsL, rowE, sumsL, sumD, sumD_length, hR, he, hr, hli] <;> rfl)) ?_ | refine Head.p hF rfl rfl rfl ?_
            first | refine Head.v hF rfl rfl rfl (opV_move rfl rfl) ?_ | refine Head.p hF rfl rfl rfl ?_
            first | refine Head.c hF rfl rfl (by kernel_rfl) rfl rfl rfl (cs) ?_ | refine Head.p hF rfl rfl rfl ?_
            first | refine Head.v hF rfl rfl rfl (opV_pickT rfl rfl rfl) ?_ | refine Head.v hF rfl rfl rfl (opV_pickF rfl rfl rfl) ?_
            refine Head.v hF rfl rfl rfl (opV_assign rfl rfl) ?_
            refine Head.last ⟨rfl, ?_⟩
            simp only [List.drop_succ_cons, List.drop_zero, List.drop_nil, List.nil_append, List.cons_append]
            refine SmG.nil ?_
            refine nextS_normal ?_
            refine Sm.seq ?_
            refine Sm.drawG hF (by kernel_rfl) rfl 42 (by kernel_rfl) (by kernel_rfl) ?_
            simp only [List.take_succ_cons, List.take_zero, List.take_nil]
            refine Head.v hF rfl rfl rfl (opV_move rfl rfl) ?_
            refine Head.v hF rfl rfl rfl (opV_un rfl rfl (by first | exact rd_notT _ | exact rd_notF _ | exact rd_not _)) ?_
            refine Head.v hF rfl rfl rfl (opV_move rfl rfl) ?_
            first | refine Head.v hF rfl rfl rfl (opV_load rfl rfl (by simp (disch := omega) only [go_sem, Nat.reduceEqDiff, iteP, elemsL, rowE, sumsL, sumD, sumD_length, hR, he, hr, hli] <;> rfl)) ?_ | refine Head.p hF rfl rfl rfl ?_
            first | refine Head.v hF rfl rfl rfl (opV_move rfl rfl) ?_ | refine Head.p hF rfl rfl rfl ?_
            first | refine Head.v hF rfl rfl rfl (opV_len rfl rfl (by simp (disch := omega) only [go_sem, Nat.reduceEqDiff, iteP, elemsL, rowE, sumsL, sumD, sumD_length, hR, he, hr, hli] <;> rfl)) ?_ | refine Head.p hF rfl rfl rfl ?_
            first | refine Head.v hF rfl rfl rfl (opV_move rfl rfl) ?_ | refine Head.p hF rfl rfl rfl ?_
            first | refine Head.v hF rfl rfl rfl (opV_move rfl rfl) ?_ | refine Head.p hF rfl rfl rfl ?_
            first | refine Head.v hF rfl rfl rfl (opV_move rfl rfl) ?_ | refine Head.p hF rfl rfl rfl ?_
            first | refine Head.v hF rfl rfl rfl (opV_indexAddr rfl rfl rfl (by simp (disch := omega) only [go_sem, Nat.reduceEqDiff, iteP, elemsL, rowE, sumsL, sumD, sumD_length, hR, he, hr, hli] <;> rfl)) ?_ | refine Head.p hF rfl rfl rfl ?_
            first | refine Head.v hF rfl rfl rfl (opV_load rfl rfl (by simp (disch := omega) only [go_sem, Nat.reduceEqDiff, iteP, elemsL, rowE, sumsL, sumD, sumD_length, hR, he, hr, hli] <;> rfl)) ?_ | refine Head.p hF rfl rfl rfl ?_
            first | refine Head.v hF rfl rfl rfl (opV_move rfl rfl) ?_ | refine Head.p hF rfl rfl rfl ?_
            first | refine Head.v hF rfl rfl rfl (opV_move rfl rfl) ?_ | refine Head.p hF rfl rfl rfl ?_
            first | refine Head.v hF rfl rfl rfl (opV_indexAddr rfl rfl rfl (by simp (disch := omega) only [go_sem, Nat.reduceEqDiff, iteP, elemsL, rowE, sumsL, sumD, sumD_length, hR, he, hr, hli] <;> rfl)) ?_ | refine Head.p hF rfl rfl rfl ?_
            first | refine Head.v hF rfl rfl rfl (opV_load rfl rfl (by simp (disch := omega) only [go_sem, Nat.reduceEqDiff, iteP, elemsL, rowE, sumsL, sumD, sumD_length, hR, he, hr, hli] <;> rfl)) ?_ | refine Head.p hF rfl rfl rfl ?_
            first | refine Head.c hF rfl rfl (by kernel_rfl) rfl rfl rfl (cc) ?_ | refine Head.p hF rfl rfl rfl ?_
            first | refine Head.v hF rfl rfl rfl (opV_pickT rfl rfl rfl) ?_ | refine Head.v hF rfl rfl rfl (opV_pickF rfl rfl rfl) ?_
            refine Head.v hF rfl rfl rfl (opV_move rfl rfl) ?_
            first | refine Head.v hF rfl rfl rfl (opV_move rfl rfl) ?_ | refine Head.p hF rfl rfl rfl ?_
            first | refine Head.v hF rfl rfl rfl (opV_len rfl rfl (by simp (disch := omega) only [go_sem, Nat.reduceEqDiff, iteP, elemsL, rowE, sumsL, sumD, sumD_length, hR, he, hr, hli] <;> rfl)) ?_ | refine Head.p hF rfl rfl rfl ?_
            first | refine Head.v hF rfl rfl rfl (opV_move rfl rfl) ?_ | refine Head.p hF rfl rfl rfl ?_
            first | refine Head.v hF rfl rfl rfl (opV_move rfl rfl) ?_ | refine Head.p hF rfl rfl rfl ?_
            first | refine Head.v hF rfl rfl rfl (opV_move rfl rfl) ?_ | refine Head.p hF rfl rfl rfl ?_
            first | refine Head.v hF rfl rfl rfl (opV_indexAddr rfl rfl rfl (by simp (disch := omega) only [go_sem, Nat.reduceEqDiff, iteP, elemsL, rowE, sumsL, sumD, sumD_length, hR, he, hr, hli] <;> rfl)) ?_ | refine Head.p hF rfl rfl rfl ?_
            first | refine Head.v hF rfl rfl rfl (opV_load rfl rfl (by simp (disch := omega) only [go_sem, Nat.reduceEqDiff, iteP, elemsL, rowE, sumsL, sumD, sumD_length, hR, he, hr, hli] <;> rfl)) ?_ | refine Head.p hF rfl rfl rfl ?_
            first | refine Head.v hF rfl rfl rfl (opV_move rfl rfl) ?_ | refine Head.p hF rfl rfl rfl ?_
            refine Head.p hF rfl rfl rfl ?_
            first | refine Head.v hF rfl rfl rfl (opV_move rfl rfl) ?_ | refine Head.p hF rfl rfl rfl ?_
            first | refine Head.v hF rfl rfl rfl (opV_len rfl rfl (by simp (disch := omega) only [go_sem, Nat.reduceEqDiff, iteP, elemsL, rowE, sumsL, sumD, sumD_length, hR, he, hr, hli] <;> rfl)) ?_ | refine Head.p hF rfl rfl rfl ?_
            first | refine Head.v hF rfl rfl rfl (opV_move rfl rfl) ?_ | refine Head.p hF rfl rfl rfl ?_
            first | refine Head.v hF rfl rfl rfl (opV_move rfl rfl) ?_ | refine Head.p hF rfl rfl rfl ?_
            first | refine Head.v hF rfl rfl rfl (opV_move rfl rfl) ?_ | refine Head.p hF rfl rfl rfl ?_
            first | refine Head.v hF rfl rfl rfl (opV_indexAddr rfl rfl rfl (by simp (disch := omega) only [go_sem, Nat.reduceEqDiff, iteP, elemsL, rowE, sumsL, sumD, sumD_length, hR, he, hr, hli] <;> rfl)) ?_ | refine Head.p hF rfl rfl rfl ?_
            first | refine Head.v hF rfl rfl rfl (opV_load rfl rfl (by simp (disch := omega) only [go_sem, Nat.reduceEqDiff, iteP, elemsL, rowE, sumsL, sumD, sumD_length, hR, he, hr, hli] <;> rfl)) ?_ | refine Head.p hF rfl rfl rfl ?_
            first | refine Head.v hF rfl rfl rfl (opV_move rfl rfl) ?_ | refine Head.p hF rfl rfl rfl ?_
            first | refine Head.v hF rfl rfl rfl (opV_move rfl rfl) ?_ | refine Head.p hF rfl rfl rfl ?_
            first | refine Head.v hF rfl rfl rfl (opV_indexAddr rfl rfl rfl (by simp (disch := omega) only [go_sem, Nat.reduceEqDiff, iteP, elemsL, rowE, sumsL, sumD, sumD_length, hR, he, hr, hli] <;> rfl)) ?_ | refine Head.p hF rfl rfl rfl ?_
            first | refine Head.v hF rfl rfl rfl (opV_load rfl rfl (by simp (disch := omega) only [go_sem, Nat.reduceEqDiff, iteP, elemsL, rowE, sumsL, sumD, sumD_length, hR, he, hr, hli] <;> rfl)) ?_ | refine Head.p hF rfl rfl rfl ?_
            refine Head.p hF rfl rfl rfl ?_
            refine Head.p hF rfl rfl rfl ?_
            first | refine Head.v hF rfl rfl rfl (opV_un rfl rfl (by first | exact rd_notT _ | exact rd_notF _ | exact rd_not _)) ?_ | refine Head.p hF rfl rfl rfl ?_
            first | refine Head.v hF rfl rfl rfl (opV_pickT rfl rfl rfl) ?_ | refine Head.v hF rfl rfl rfl (opV_pickF rfl rfl rfl) ?_
            refine Head.last ⟨rfl, ?_⟩
            simp only [List.drop_succ_cons, List.drop_zero, List.drop_nil, List.nil_append, List.cons_append]
            refine SmG.nil ?_
            refine nextS_normal ?_
            refine Sm.condF hF rfl ?_
            refine Sm.skip ?_
            refine blockS_normal ?_
            refine nextS_normal ?_
            refine Sm.regionG hF rfl ?_
            refine SmG.v hF rfl rfl rfl (opV_move rfl rfl) ?_
            refine SmG.v hF rfl rfl rfl (opV_bin rfl rfl rfl (by first | exact rd_add _ _ _ _ _ (wrapI64 _ (by omega)) | exact rb_add _ _ _ _ _ _ _)) ?_
            refine SmG.v hF rfl rfl rfl (opV_assign rfl rfl) ?_
            refine SmG.nil ?_
            refine nextS_normal ?_
            exact ⟨⟨c + 1, by omega⟩, by show 2 - (c + 1) < 2 - c; omega, by exact St.le_of (by simp [leE, look, constD]) (by simp [leH, look, rep]) (by first | exact Nat.le_refl _ | (dsimp only; omega))⟩
          | true =>
            rw [hch] at cc
            rw [hm hch (fun h => hrp h.2)] at k3
            refine Sm.seq ?_
            refine Sm.seq ?_
            refine Sm.regionG hF rfl ?_
            refine SmG.v hF rfl rfl rfl (opV_move rfl rfl) ?_
            refine SmG.v hF rfl rfl rfl (opV_bin rfl rfl rfl (by first | exact rd_lssT _ _ _ _ _ (by omega) | exact rd_lssF _ _ _ _ _ (by omega) | exact rb_lss _ _ _ _ _ _ _)) ?_
            refine SmG.nil ?_
            refine nextS_normal ?_
            refine Sm.condT hF rfl ?_
            refine Sm.skip ?_
            refine nextS_normal ?_
            refine Sm.seq ?_
            refine Sm.block ?_
            refine Sm.seq ?_
            refine Sm.drawG hF (by kernel_rfl) rfl 20 (by kernel_rfl) (by kernel_rfl) ?_
            simp only [List.take_succ_cons, List.take_zero, List.take_nil]
            refine Head.v hF rfl rfl rfl (opV_move rfl rfl) ?_
            refine Head.v hF rfl rfl rfl (opV_move rfl rfl) ?_
            refine Head.v hF rfl rfl rfl (opV_indexAddr rfl rfl rfl (by simp (disch := omega) only [go_sem, Nat.reduceEqDiff, iteP, elemsL, rowE, sumsL, sumD, sumD_length, hR, he, hr, hli] <;> rfl)) ?_
            refine Head.v hF rfl rfl rfl (opV_load rfl rfl (by simp (disch := omega) only [go_sem, Nat.reduceEqDiff, iteP, elemsL, rowE, sumsL, sumD, sumD_length, hR, he, hr, hli] <;> rfl)) ?_
            refine Head.v hF rfl rfl rfl (opV_conv rfl rfl (conv_bytes _ Tryd.underlying22 Tryd.underlying9 Tryd.underlying5)) ?_
            refine Head.v hF rfl rfl rfl (opV_move rfl rfl) ?_
            refine Head.v hF rfl rfl rfl (opV_move rfl rfl) ?_
            refine Head.v hF rfl rfl rfl (opV_indexAddr rfl rfl rfl (by simp (disch := omega) only [go_sem, Nat.reduceEqDiff, iteP, elemsL, rowE, sumsL, sumD, sumD_length, hR, he, hr, hli] <;> rfl)) ?_
            refine Head.v hF rfl rfl rfl (opV_load rfl rfl (by simp (disch := omega) only [go_sem, Nat.reduceEqDiff, iteP, elemsL, rowE, sumsL, sumD, sumD_length, hR, he, hr, hli] <;> rfl)) ?_
            refine Head.v hF rfl rfl rfl (opV_conv rfl rfl (conv_bytes _ Tryd.underlying22 Tryd.underlying9 Tryd.underlying5)) ?_
            refine Head.v hF rfl rfl rfl (opV_bin rfl rfl rfl ((rd_seql _ _ _ _ _ _).trans (by rw [hd]))) ?_
            refine Head.v hF rfl rfl rfl (opV_move rfl rfl) ?_
            first | refine Head.v hF rfl rfl rfl (opV_move rfl rfl) ?_ | refine Head.p hF rfl rfl rfl ?_
            first | refine Head.v hF rfl rfl rfl (opV_move rfl rfl) ?_ | refine Head.p hF rfl rfl rfl ?_
            first | refine Head.v hF rfl rfl rfl (opV_indexAddr rfl rfl rfl (by simp (disch := omega) only [go_sem, Nat.reduceEqDiff, iteP, elemsL, rowE, sumsL, sumD, sumD_length, hR, he, hr, hli] <;> rfl)) ?_ | refine Head.p hF rfl rfl rfl ?_
            first | refine Head.v hF rfl rfl rfl (opV_load rfl rfl (by simp (disch := omega) only [go_sem, Nat.reduceEqDiff, iteP, elemsL, rowE, sumsL, sumD, sumD_length, hR, he, hr, hli] <;> rfl)) ?_ | refine Head.p hF rfl rfl rfl ?_
            first | refine Head.v hF rfl rfl rfl (opV_move rfl rfl) ?_ | refine Head.p hF rfl rfl rfl ?_
            first | refine Head.c hF rfl rfl (by kernel_rfl) rfl rfl rfl (cs) ?_ | refine Head.p hF rfl rfl rfl ?_
            first | refine Head.v hF rfl rfl rfl (opV_pickT rfl rfl rfl) ?_ | refine Head.v hF rfl rfl rfl (opV_pickF rfl rfl rfl) ?_
            refine Head.v hF rfl rfl rfl (opV_assign rfl rfl) ?_
            refine Head.last ⟨rfl, ?_⟩
            simp only [List.drop_succ_cons, List.drop_zero, List.drop_nil, List.nil_append, List.cons_append]
            refine SmG.nil ?_
            refine nextS_normal ?_
            refine Sm.seq ?_
            refine Sm.drawG hF (by kernel_rfl) rfl 42 (by kernel_rfl) (by kernel_rfl) ?_
            simp only [List.take_succ_cons, List.take_zero, List.take_nil]
            refine Head.v hF rfl rfl rfl (opV_move rfl rfl) ?_
            refine Head.v hF rfl rfl rfl (opV_un rfl rfl (by first | exact rd_notT _ | exact rd_notF _ | exact rd_not _)) ?_
            refine Head.v hF rfl rfl rfl (opV_move rfl rfl) ?_
            first | refine Head.v hF rfl rfl rfl (opV_load rfl rfl (by simp (disch := omega) only [go_sem, Nat.reduceEqDiff, iteP, elemsL, rowE, sumsL, sumD, sumD_length, hR, he, hr, hli] <;> rfl)) ?_ | refine Head.p hF rfl rfl rfl ?_
            first | refine Head.v hF rfl rfl rfl (opV_move rfl rfl) ?_ | refine Head.p hF rfl rfl rfl ?_
            first | refine Head.v hF rfl rfl rfl (opV_len rfl rfl (by simp (disch := omega) only [go_sem, Nat.reduceEqDiff, iteP, elemsL, rowE, sumsL, sumD, sumD_length, hR, he, hr, hli] <;> rfl)) ?_ | refine Head.p hF rfl rfl rfl ?_
            first | refine Head.v hF rfl rfl rfl (opV_move rfl rfl) ?_ | refine Head.p hF rfl rfl rfl ?_
            first | refine Head.v hF rfl rfl rfl (opV_move rfl rfl) ?_ | refine Head.p hF rfl rfl rfl ?_
            first | refine Head.v hF rfl rfl rfl (opV_move rfl rfl) ?_ | refine Head.p hF rfl rfl rfl ?_
            first | refine Head.v hF rfl rfl rfl (opV_indexAddr rfl rfl rfl (by simp (disch := omega) only [go_sem, Nat.reduceEqDiff, iteP, elemsL, rowE, sumsL, sumD, sumD_length, hR, he, hr, hli] <;> rfl)) ?_ | refine Head.p hF rfl rfl rfl ?_
            first | refine Head.v hF rfl rfl rfl (opV_load rfl rfl (by simp (disch := omega) only [go_sem, Nat.reduceEqDiff, iteP, elemsL, rowE, sumsL, sumD, sumD_length, hR, he, hr, hli] <;> rfl)) ?_ | refine Head.p hF rfl rfl rfl ?_
            first | refine Head.v hF rfl rfl rfl (opV_move rfl rfl) ?_ | refine Head.p hF rfl rfl rfl ?_
            first | refine Head.v hF rfl rfl rfl (opV_move rfl rfl) ?_ | refine Head.p hF rfl rfl rfl ?_
            first | refine Head.v hF rfl rfl rfl (opV_indexAddr rfl rfl rfl (by simp (disch := omega) only [go_sem, Nat.reduceEqDiff, iteP, elemsL, rowE, sumsL, sumD, sumD_length, hR, he, hr, hli] <;> rfl)) ?_ | refine Head.p hF rfl rfl rfl ?_
            first | refine Head.v hF rfl rfl rfl (opV_load rfl rfl (by simp (disch := omega) only [go_sem, Nat.reduceEqDiff, iteP, elemsL, rowE, sumsL, sumD, sumD_length, hR, he, hr, hli] <;> rfl)) ?_ | refine Head.p hF rfl rfl rfl ?_
            first | refine Head.c hF rfl rfl (by kernel_rfl) rfl rfl rfl (cc) ?_ | refine Head.p hF rfl rfl rfl ?_
            first | refine Head.v hF rfl rfl rfl (opV_pickT rfl rfl rfl) ?_ | refine Head.v hF rfl rfl rfl (opV_pickF rfl rfl rfl) ?_
            refine Head.v hF rfl rfl rfl (opV_move rfl rfl) ?_
            first | refine Head.v hF rfl rfl rfl (opV_move rfl rfl) ?_ | refine Head.p hF rfl rfl rfl ?_
            first | refine Head.v hF rfl rfl rfl (opV_len rfl rfl (by simp (disch := omega) only [go_sem, Nat.reduceEqDiff, iteP, elemsL, rowE, sumsL, sumD, sumD_length, hR, he, hr, hli] <;> rfl)) ?_ | refine Head.p hF rfl rfl rfl ?_
            first | refine Head.v hF rfl rfl rfl (opV_move rfl rfl) ?_ | refine Head.p hF rfl rfl rfl ?_
            first | refine Head.v hF rfl rfl rfl (opV_move rfl rfl) ?_ | refine Head.p hF rfl rfl rfl ?_
            first | refine Head.v hF rfl rfl rfl (opV_move rfl rfl) ?_ | refine Head.p hF rfl rfl rfl ?_
            first | refine Head.v hF rfl rfl rfl (opV_indexAddr rfl rfl rfl (by simp (disch := omega) only [go_sem, Nat.reduceEqDiff, iteP, elemsL, rowE, sumsL, sumD, sumD_length, hR, he, hr, hli] <;> rfl)) ?_ | refine Head.p hF rfl rfl rfl ?_
            first | refine Head.v hF rfl rfl rfl (opV_load rfl rfl (by simp (disch := omega) only [go_sem, Nat.reduceEqDiff, iteP, elemsL, rowE, sumsL, sumD, sumD_length, hR, he, hr, hli] <;> rfl)) ?_ | refine Head.p hF rfl rfl rfl ?_
            first | refine Head.v hF rfl rfl rfl (opV_move rfl rfl) ?_ | refine Head.p hF rfl rfl rfl ?_
            first | refine Head.c hF rfl rfl (by kernel_rfl) rfl rfl rfl (k1) ?_ | refine Head.p hF rfl rfl rfl ?_
            first | refine Head.v hF rfl rfl rfl (opV_move rfl rfl) ?_ | refine Head.p hF rfl rfl rfl ?_
            first | refine Head.v hF rfl rfl rfl (opV_len rfl rfl (by simp (disch := omega) only [go_sem, Nat.reduceEqDiff, iteP, elemsL, rowE, sumsL, sumD, sumD_length, hR, he, hr, hli] <;> rfl)) ?_ | refine Head.p hF rfl rfl rfl ?_
            first | refine Head.v hF rfl rfl rfl (opV_move rfl rfl) ?_ | refine Head.p hF rfl rfl rfl ?_
            first | refine Head.v hF rfl rfl rfl (opV_move rfl rfl) ?_ | refine Head.p hF rfl rfl rfl ?_
            first | refine Head.v hF rfl rfl rfl (opV_move rfl rfl) ?_ | refine Head.p hF rfl rfl rfl ?_
            first | refine Head.v hF rfl rfl rfl (opV_indexAddr rfl rfl rfl (by simp (disch := omega) only [go_sem, Nat.reduceEqDiff, iteP, elemsL, rowE, sumsL, sumD, sumD_length, hR, he, hr, hli] <;> rfl)) ?_ | refine Head.p hF rfl rfl rfl ?_
            first | refine Head.v hF rfl rfl rfl (opV_load rfl rfl (by simp (disch := omega) only [go_sem, Nat.reduceEqDiff, iteP, elemsL, rowE, sumsL, sumD, sumD_length, hR, he, hr, hli] <;> rfl)) ?_ | refine Head.p hF rfl rfl rfl ?_
            first | refine Head.v hF rfl rfl rfl (opV_move rfl rfl) ?_ | refine Head.p hF rfl rfl rfl ?_
            first | refine Head.v hF rfl rfl rfl (opV_move rfl rfl) ?_ | refine Head.p hF rfl rfl rfl ?_
            first | refine Head.v hF rfl rfl rfl (opV_indexAddr rfl rfl rfl (by simp (disch := omega) only [go_sem, Nat.reduceEqDiff, iteP, elemsL, rowE, sumsL, sumD, sumD_length, hR, he, hr, hli] <;> rfl)) ?_ | refine Head.p hF rfl rfl rfl ?_
            first | refine Head.v hF rfl rfl rfl (opV_load rfl rfl (by simp (disch := omega) only [go_sem, Nat.reduceEqDiff, iteP, elemsL, rowE, sumsL, sumD, sumD_length, hR, he, hr, hli] <;> rfl)) ?_ | refine Head.p hF rfl rfl rfl ?_
            first | refine Head.c hF rfl rfl (by kernel_rfl) rfl rfl rfl (k2) ?_ | refine Head.p hF rfl rfl rfl ?_
            first | refine Head.c hF rfl rfl (by kernel_rfl) rfl rfl rfl (k3) ?_ | refine Head.p hF rfl rfl rfl ?_
            first | refine Head.v hF rfl rfl rfl (opV_un rfl rfl (by first | exact rd_notT _ | exact rd_notF _ | exact rd_not _)) ?_ | refine Head.p hF rfl rfl rfl ?_
            first | refine Head.v hF rfl rfl rfl (opV_pickT rfl rfl rfl) ?_ | refine Head.v hF rfl rfl rfl (opV_pickF rfl rfl rfl) ?_
            refine Head.last ⟨rfl, ?_⟩
            simp only [List.drop_succ_cons, List.drop_zero, List.drop_nil, List.nil_append, List.cons_append]
            refine SmG.nil ?_
            refine nextS_normal ?_
            refine Sm.condF hF rfl ?_
            refine Sm.skip ?_
            refine blockS_normal ?_
            refine nextS_normal ?_
            refine Sm.regionG hF rfl ?_
            refine SmG.v hF rfl rfl rfl (opV_move rfl rfl) ?_
            refine SmG.v hF rfl rfl rfl (opV_bin rfl rfl rfl (by first | exact rd_add _ _ _ _ _ (wrapI64 _ (by omega)) | exact rb_add _ _ _ _ _ _ _)) ?_
            refine SmG.v hF rfl rfl rfl (opV_assign rfl rfl) ?_
            refine SmG.nil ?_
            refine nextS_normal ?_
            exact ⟨⟨c + 1, by omega⟩, by show 2 - (c + 1) < 2 - c; omega, by exact St.le_of (by simp [leE, look, constD]) (by simp [leH, look, rep]) (by first | exact Nat.le_refl _ | (dsimp only; omega))⟩
      · have hd : decide (e = b) = false := decide_eq_false heb
        cases hch : Sha.check R l.length i e r with
        | false =>
          rw [hch] at cc
          refine Sm.seq ?_
          refine Sm.seq ?_
          refine Sm.regionG hF rfl ?_
          refine SmG.v hF rfl rfl rfl (opV_move rfl rfl) ?_
          refine SmG.v hF rfl rfl rfl (opV_bin rfl rfl rfl (by first | exact rd_lssT _ _ _ _ _ (by omega) | exact rd_lssF _ _ _ _ _ (by omega) | exact rb_lss _ _ _ _ _ _ _)) ?_
          refine SmG.nil ?_
          refine nextS_normal ?_
          refine Sm.condT hF rfl ?_
          refine Sm.skip ?_
          refine nextS_normal ?_
          refine Sm.seq ?_
          refine Sm.block ?_
          refine Sm.seq ?_
          refine Sm.drawG hF (by kernel_rfl) rfl 20 (by kernel_rfl) (by kernel_rfl) ?_
          simp only [List.take_succ_cons, List.take_zero, List.take_nil]
          refine Head.v hF rfl rfl rfl (opV_move rfl rfl) ?_
          refine Head.v hF rfl rfl rfl (opV_move rfl rfl) ?_
          refine Head.v hF rfl rfl rfl (opV_indexAddr rfl rfl rfl (by simp (disch := omega) only [go_sem, Nat.reduceEqDiff, iteP, elemsL, rowE, sumsL, sumD, sumD_length, hR, he, hr, hli] <;> rfl)) ?_
          refine Head.v hF rfl rfl rfl (opV_load rfl rfl (by simp (disch := omega) only [go_sem, Nat.reduceEqDiff, iteP, elemsL, rowE, sumsL, sumD, sumD_length, hR, he, hr, hli] <;> rfl)) ?_
          refine Head.v hF rfl rfl rfl (opV_conv rfl rfl (conv_bytes _ Tryd.underlying22 Tryd.underlying9 Tryd.underlying5)) ?_
          refine Head.v hF rfl rfl rfl (opV_move rfl rfl) ?_
          refine Head.v hF rfl rfl rfl (opV_move rfl rfl) ?_
          refine Head.v hF rfl rfl rfl (opV_indexAddr rfl rfl rfl (by simp (disch := omega) only [go_sem, Nat.reduceEqDiff, iteP, elemsL, rowE, sumsL, sumD, sumD_length, hR, he, hr, hli] <;> rfl)) ?_
          refine Head.v hF rfl rfl rfl (opV_load rfl rfl (by simp (disch := omega) only [go_sem, Nat.reduceEqDiff, iteP, elemsL, rowE, sumsL, sumD, sumD_length, hR, he, hr, hli] <;> rfl)) ?_
          refine Head.v hF rfl rfl rfl (opV_conv rfl rfl (conv_bytes _ Tryd.underlying22 Tryd.underlying9 Tryd.underlying5)) ?_
          refine Head.v hF rfl rfl rfl (opV_bin rfl rfl rfl ((rd_seql _ _ _ _ _ _).trans (by rw [hd]))) ?_
          refine Head.v hF rfl rfl rfl (opV_move rfl rfl) ?_
          first | refine Head.v hF rfl rfl rfl (opV_move rfl rfl) ?_ | refine Head.p hF rfl rfl rfl ?_
          first | refine Head.v hF rfl rfl rfl (opV_move rfl rfl) ?_ | refine Head.p hF rfl rfl rfl ?_
          first | refine Head.v hF rfl rfl rfl (opV_indexAddr rfl rfl rfl (by simp (disch := omega) only [go_sem, Nat.reduceEqDiff, iteP, elemsL, rowE, sumsL, sumD, sumD_length, hR, he, hr, hli] <;> rfl)) ?_ | refine Head.p hF rfl rfl rfl ?_
          first | refine Head.v hF rfl rfl rfl (opV_load rfl rfl (by simp (disch := omega) only [go_sem, Nat.reduceEqDiff, iteP, elemsL, rowE, sumsL, sumD, sumD_length, hR, he, hr, hli] <;> rfl)) ?_ | refine Head.p hF rfl rfl rfl ?_
          first | refine Head.v hF rfl rfl rfl (opV_move rfl rfl) ?_ | refine Head.p hF rfl rfl rfl ?_
          refine Head.p hF rfl rfl rfl ?_
          first | refine Head.v hF rfl rfl rfl (opV_pickT rfl rfl rfl) ?_ | refine Head.v hF rfl rfl rfl (opV_pickF rfl rfl rfl) ?_
          refine Head.v hF rfl rfl rfl (opV_assign rfl rfl) ?_
          refine Head.last ⟨rfl, ?_⟩
          simp only [List.drop_succ_cons, List.drop_zero, List.drop_nil, List.nil_append, List.cons_append]
          refine SmG.nil ?_
          refine nextS_normal ?_
          refine Sm.seq ?_
          refine Sm.drawG hF (by kernel_rfl) rfl 42 (by kernel_rfl) (by kernel_rfl) ?_
          simp only [List.take_succ_cons, List.take_zero, List.take_nil]
          refine Head.v hF rfl rfl rfl (opV_move rfl rfl) ?_
          refine Head.v hF rfl rfl rfl (opV_un rfl rfl (by first | exact rd_notT _ | exact rd_notF _ | exact rd_not _)) ?_
          refine Head.v hF rfl rfl rfl (opV_move rfl rfl) ?_
          first | refine Head.v hF rfl rfl rfl (opV_load rfl rfl (by simp (disch := omega) only [go_sem, Nat.reduceEqDiff, iteP, elemsL, rowE, sumsL, sumD, sumD_length, hR, he, hr, hli] <;> rfl)) ?_ | refine Head.p hF rfl rfl rfl ?_
          first | refine Head.v hF rfl rfl rfl (opV_move rfl rfl) ?_ | refine Head.p hF rfl rfl rfl ?_
          first | refine Head.v hF rfl rfl rfl (opV_len rfl rfl (by simp (disch := omega) only [go_sem, Nat.reduceEqDiff, iteP, elemsL, rowE, sumsL, sumD, sumD_length, hR, he, hr, hli] <;> rfl)) ?_ | refine Head.p hF rfl rfl rfl ?_
          first | refine Head.v hF rfl rfl rfl (opV_move rfl rfl) ?_ | refine Head.p hF rfl rfl rfl ?_
          first | refine Head.v hF rfl rfl rfl (opV_move rfl rfl) ?_ | refine Head.p hF rfl rfl rfl ?_
          first | refine Head.v hF rfl rfl rfl (opV_move rfl rfl) ?_ | refine Head.p hF rfl rfl rfl ?_
          first | refine Head.v hF rfl rfl rfl (opV_indexAddr rfl rfl rfl (by simp (disch := omega) only [go_sem, Nat.reduceEqDiff, iteP, elemsL, rowE, sumsL, sumD, sumD_length, hR, he, hr, hli] <;> rfl)) ?_ | refine Head.p hF rfl rfl rfl ?_
          first | refine Head.v hF rfl rfl rfl (opV_load rfl rfl (by simp (disch := omega) only [go_sem, Nat.reduceEqDiff, iteP, elemsL, rowE, sumsL, sumD, sumD_length, hR, he, hr, hli] <;> rfl)) ?_ | refine Head.p hF rfl rfl rfl ?_
          first | refine Head.v hF rfl rfl rfl (opV_move rfl rfl) ?_ | refine Head.p hF rfl rfl rfl ?_
          first | refine Head.v hF rfl rfl rfl (opV_move rfl rfl) ?_ | refine Head.p hF rfl rfl rfl ?_
          first | refine Head.v hF rfl rfl rfl (opV_indexAddr rfl rfl rfl (by simp (disch := omega) only [go_sem, Nat.reduceEqDiff, iteP, elemsL, rowE, sumsL, sumD, sumD_length, hR, he, hr, hli] <;> rfl)) ?_ | refine Head.p hF rfl rfl rfl ?_
          first | refine Head.v hF rfl rfl rfl (opV_load rfl rfl (by simp (disch := omega) only [go_sem, Nat.reduceEqDiff, iteP, elemsL, rowE, sumsL, sumD, sumD_length, hR, he, hr, hli] <;> rfl)) ?_ | refine Head.p hF rfl rfl rfl ?_
          first | refine Head.c hF rfl rfl (by kernel_rfl) rfl rfl rfl (cc) ?_ | refine Head.p hF rfl rfl rfl ?_
          first | refine Head.v hF rfl rfl rfl (opV_pickT rfl rfl rfl) ?_ | refine Head.v hF rfl rfl rfl (opV_pickF rfl rfl rfl) ?_
          refine Head.v hF rfl rfl rfl (opV_move rfl rfl) ?_
          first | refine Head.v hF rfl rfl rfl (opV_move rfl rfl) ?_ | refine Head.p hF rfl rfl rfl ?_
          first | refine Head.v hF rfl rfl rfl (opV_len rfl rfl (by simp (disch := omega) only [go_sem, Nat.reduceEqDiff, iteP, elemsL, rowE, sumsL, sumD, sumD_length, hR, he, hr, hli] <;> rfl)) ?_ | refine Head.p hF rfl rfl rfl ?_
          first | refine Head.v hF rfl rfl rfl (opV_move rfl rfl) ?_ | refine Head.p hF rfl rfl rfl ?_
          first | refine Head.v hF rfl rfl rfl (opV_move rfl rfl) ?_ | refine Head.p hF rfl rfl rfl ?_
          first | refine Head.v hF rfl rfl rfl (opV_move rfl rfl) ?_ | refine Head.p hF rfl rfl rfl ?_
          first | refine Head.v hF rfl rfl rfl (opV_indexAddr rfl rfl rfl (by simp (disch := omega) only [go_sem, Nat.reduceEqDiff, iteP, elemsL, rowE, sumsL, sumD, sumD_length, hR, he, hr, hli] <;> rfl)) ?_ | refine Head.p hF rfl rfl rfl ?_
          first | refine Head.v hF rfl rfl rfl (opV_load rfl rfl (by simp (disch := omega) only [go_sem, Nat.reduceEqDiff, iteP, elemsL, rowE, sumsL, sumD, sumD_length, hR, he, hr, hli] <;> rfl)) ?_ | refine Head.p hF rfl rfl rfl ?_
          first | refine Head.v hF rfl rfl rfl (opV_move rfl rfl) ?_ | refine Head.p hF rfl rfl rfl ?_
          refine Head.p hF rfl rfl rfl ?_
          first | refine Head.v hF rfl rfl rfl (opV_move rfl rfl) ?_ | refine Head.p hF rfl rfl rfl ?_
          first | refine Head.v hF rfl rfl rfl (opV_len rfl rfl (by simp (disch := omega) only [go_sem, Nat.reduceEqDiff, iteP, elemsL, rowE, sumsL, sumD, sumD_length, hR, he, hr, hli] <;> rfl)) ?_ | refine Head.p hF rfl rfl rfl ?_
          first | refine Head.v hF rfl rfl rfl (opV_move rfl rfl) ?_ | refine Head.p hF rfl rfl rfl ?_
          first | refine Head.v hF rfl rfl rfl (opV_move rfl rfl) ?_ | refine Head.p hF rfl rfl rfl ?_
          first | refine Head.v hF rfl rfl rfl (opV_move rfl rfl) ?_ | refine Head.p hF rfl rfl rfl ?_
          first | refine Head.v hF rfl rfl rfl (opV_indexAddr rfl rfl rfl (by simp (disch := omega) only [go_sem, Nat.reduceEqDiff, iteP, elemsL, rowE, sumsL, sumD, sumD_length, hR, he, hr, hli] <;> rfl)) ?_ | refine Head.p hF rfl rfl rfl ?_
          first | refine Head.v hF rfl rfl rfl (opV_load rfl rfl (by simp (disch := omega) only [go_sem, Nat.reduceEqDiff, iteP, elemsL, rowE, sumsL, sumD, sumD_length, hR, he, hr, hli] <;> rfl)) ?_ | refine Head.p hF rfl rfl rfl ?_
          first | refine Head.v hF rfl rfl rfl (opV_move rfl rfl) ?_ | refine Head.p hF rfl rfl rfl ?_
          first | refine Head.v hF rfl rfl rfl (opV_move rfl rfl) ?_ | refine Head.p hF rfl rfl rfl ?_
          first | refine Head.v hF rfl rfl rfl (opV_indexAddr rfl rfl rfl (by simp (disch := omega) only [go_sem, Nat.reduceEqDiff, iteP, elemsL, rowE, sumsL, sumD, sumD_length, hR, he, hr, hli] <;> rfl)) ?_ | refine Head.p hF rfl rfl rfl ?_
          first | refine Head.v hF rfl rfl rfl (opV_load rfl rfl (by simp (disch := omega) only [go_sem, Nat.reduceEqDiff, iteP, elemsL, rowE, sumsL, sumD, sumD_length, hR, he, hr, hli] <;> rfl)) ?_ | refine Head.p hF rfl rfl rfl ?_
          refine Head.p hF rfl rfl rfl ?_
          refine Head.p hF rfl rfl rfl ?_
          first | refine Head.v hF rfl rfl rfl (opV_un rfl rfl (by first | exact rd_notT _ | exact rd_notF _ | exact rd_not _)) ?_ | refine Head.p hF rfl rfl rfl ?_
          first | refine Head.v hF rfl rfl rfl (opV_pickT rfl rfl rfl) ?_ | refine Head.v hF rfl rfl rfl (opV_pickF rfl rfl rfl) ?_
          refine Head.last ⟨rfl, ?_⟩
          simp only [List.drop_succ_cons, List.drop_zero, List.drop_nil, List.nil_append, List.cons_append]
          refine SmG.nil ?_
          refine nextS_normal ?_
          refine Sm.condF hF rfl ?_
          refine Sm.skip ?_
          refine blockS_normal ?_
          refine nextS_normal ?_
          refine Sm.regionG hF rfl ?_
          refine SmG.v hF rfl rfl rfl (opV_move rfl rfl) ?_
          refine SmG.v hF rfl rfl rfl (opV_bin rfl rfl rfl (by first | exact rd_add _ _ _ _ _ (wrapI64 _ (by omega)) | exact rb_add _ _ _ _ _ _ _)) ?_
          refine SmG.v hF rfl rfl rfl (opV_assign rfl rfl) ?_
          refine SmG.nil ?_
          refine nextS_normal ?_
          exact ⟨⟨c + 1, by omega⟩, by show 2 - (c + 1) < 2 - c; omega, by exact St.le_of (by simp [leE, look, constD]) (by simp [leH, look, rep]) (by first | exact Nat.le_refl _ | (dsimp only; omega))⟩
        | true =>
          rw [hch] at cc
          rw [hm hch (fun h => heb h.1)] at k3
          refine Sm.seq ?_
          refine Sm.seq ?_
          refine Sm.regionG hF rfl ?_
          refine SmG.v hF rfl rfl rfl (opV_move rfl rfl) ?_
          refine SmG.v hF rfl rfl rfl (opV_bin rfl rfl rfl (by first | exact rd_lssT _ _ _ _ _ (by omega) | exact rd_lssF _ _ _ _ _ (by omega) | exact rb_lss _ _ _ _ _ _ _)) ?_
          refine SmG.nil ?_
          refine nextS_normal ?_
          refine Sm.condT hF rfl ?_
          refine Sm.skip ?_
          refine nextS_normal ?_
          refine Sm.seq ?_
          refine Sm.block ?_
          refine Sm.seq ?_
          refine Sm.drawG hF (by kernel_rfl) rfl 20 (by kernel_rfl) (by kernel_rfl) ?_
          simp only [List.take_succ_cons, List.take_zero, List.take_nil]
          refine Head.v hF rfl rfl rfl (opV_move rfl rfl) ?_
          refine Head.v hF rfl rfl rfl (opV_move rfl rfl) ?_
          refine Head.v hF rfl rfl rfl (opV_indexAddr rfl rfl rfl (by simp (disch := omega) only [go_sem, Nat.reduceEqDiff, iteP, elemsL, rowE, sumsL, sumD, sumD_length, hR, he, hr, hli] <;> rfl)) ?_
          refine Head.v hF rfl rfl rfl (opV_load rfl rfl (by simp (disch := omega) only [go_sem, Nat.reduceEqDiff, iteP, elemsL, rowE, sumsL, sumD, sumD_length, hR, he, hr, hli] <;> rfl)) ?_
          refine Head.v hF rfl rfl rfl (opV_conv rfl rfl (conv_bytes _ Tryd.underlying22 Tryd.underlying9 Tryd.underlying5)) ?_
          refine Head.v hF rfl rfl rfl (opV_move rfl rfl) ?_
          refine Head.v hF rfl rfl rfl (opV_move rfl rfl) ?_
          refine Head.v hF rfl rfl rfl (opV_indexAddr rfl rfl rfl (by simp (disch := omega) only [go_sem, Nat.reduceEqDiff, iteP, elemsL, rowE, sumsL, sumD, sumD_length, hR, he, hr, hli] <;> rfl)) ?_
          refine Head.v hF rfl rfl rfl (opV_load rfl rfl (by simp (disch := omega) only [go_sem, Nat.reduceEqDiff, iteP, elemsL, rowE, sumsL, sumD, sumD_length, hR, he, hr, hli] <;> rfl)) ?_
          refine Head.v hF rfl rfl rfl (opV_conv rfl rfl (conv_bytes _ Tryd.underlying22 Tryd.underlying9 Tryd.underlying5)) ?_
          refine Head.v hF rfl rfl rfl (opV_bin rfl rfl rfl ((rd_seql _ _ _ _ _ _).trans (by rw [hd]))) ?_
          refine Head.v hF rfl rfl rfl (opV_move rfl rfl) ?_
          first | refine Head.v hF rfl rfl rfl (opV_move rfl rfl) ?_ | refine Head.p hF rfl rfl rfl ?_
          first | refine Head.v hF rfl rfl rfl (opV_move rfl rfl) ?_ | refine Head.p hF rfl rfl rfl ?_
          first | refine Head.v hF rfl rfl rfl (opV_indexAddr rfl rfl rfl (by simp (disch := omega) only [go_sem, Nat.reduceEqDiff, iteP, elemsL, rowE, sumsL, sumD, sumD_length, hR, he, hr, hli] <;> rfl)) ?_ | refine Head.p hF rfl rfl rfl ?_
          first | refine Head.v hF rfl rfl rfl (opV_load rfl rfl (by simp (disch := omega) only [go_sem, Nat.reduceEqDiff, iteP, elemsL, rowE, sumsL, sumD, sumD_length, hR, he, hr, hli] <;> rfl)) ?_ | refine Head.p hF rfl rfl rfl ?_
          first | refine Head.v hF rfl rfl rfl (opV_move rfl rfl) ?_ | refine Head.p hF rfl rfl rfl ?_
          refine Head.p hF rfl rfl rfl ?_
          first | refine Head.v hF rfl rfl rfl (opV_pickT rfl rfl rfl) ?_ | refine Head.v hF rfl rfl rfl (opV_pickF rfl rfl rfl) ?_
          refine Head.v hF rfl rfl rfl (opV_assign rfl rfl) ?_
          refine Head.last ⟨rfl, ?_⟩
          simp only [List.drop_succ_cons, List.drop_zero, List.drop_nil, List.nil_append, List.cons_append]
          refine SmG.nil ?_
          refine nextS_normal ?_
          refine Sm.seq ?_
          refine Sm.drawG hF (by kernel_rfl) rfl 42 (by kernel_rfl) (by kernel_rfl) ?_
          simp only [List.take_succ_cons, List.take_zero, List.take_nil]
          refine Head.v hF rfl rfl rfl (opV_move rfl rfl) ?_
          refine Head.v hF rfl rfl rfl (opV_un rfl rfl (by first | exact rd_notT _ | exact rd_notF _ | exact rd_not _)) ?_
          refine Head.v hF rfl rfl rfl (opV_move rfl rfl) ?_
          first | refine Head.v hF rfl rfl rfl (opV_load rfl rfl (by simp (disch := omega) only [go_sem, Nat.reduceEqDiff, iteP, elemsL, rowE, sumsL, sumD, sumD_length, hR, he, hr, hli] <;> rfl)) ?_ | refine Head.p hF rfl rfl rfl ?_
          first | refine Head.v hF rfl rfl rfl (opV_move rfl rfl) ?_ | refine Head.p hF rfl rfl rfl ?_
          first | refine Head.v hF rfl rfl rfl (opV_len rfl rfl (by simp (disch := omega) only [go_sem, Nat.reduceEqDiff, iteP, elemsL, rowE, sumsL, sumD, sumD_length, hR, he, hr, hli] <;> rfl)) ?_ | refine Head.p hF rfl rfl rfl ?_
          first | refine Head.v hF rfl rfl rfl (opV_move rfl rfl) ?_ | refine Head.p hF rfl rfl rfl ?_
          first | refine Head.v hF rfl rfl rfl (opV_move rfl rfl) ?_ | refine Head.p hF rfl rfl rfl ?_
          first | refine Head.v hF rfl rfl rfl (opV_move rfl rfl) ?_ | refine Head.p hF rfl rfl rfl ?_
          first | refine Head.v hF rfl rfl rfl (opV_indexAddr rfl rfl rfl (by simp (disch := omega) only [go_sem, Nat.reduceEqDiff, iteP, elemsL, rowE, sumsL, sumD, sumD_length, hR, he, hr, hli] <;> rfl)) ?_ | refine Head.p hF rfl rfl rfl ?_
          first | refine Head.v hF rfl rfl rfl (opV_load rfl rfl (by simp (disch := omega) only [go_sem, Nat.reduceEqDiff, iteP, elemsL, rowE, sumsL, sumD, sumD_length, hR, he, hr, hli] <;> rfl)) ?_ | refine Head.p hF rfl rfl rfl ?_
          first | refine Head.v hF rfl rfl rfl (opV_move rfl rfl) ?_ | refine Head.p hF rfl rfl rfl ?_
          first | refine Head.v hF rfl rfl rfl (opV_move rfl rfl) ?_ | refine Head.p hF rfl rfl rfl ?_
          first | refine Head.v hF rfl rfl rfl (opV_indexAddr rfl rfl rfl (by simp (disch := omega) only [go_sem, Nat.reduceEqDiff, iteP, elemsL, rowE, sumsL, sumD, sumD_length, hR, he, hr, hli] <;> rfl)) ?_ | refine Head.p hF rfl rfl rfl ?_
          first | refine Head.v hF rfl rfl rfl (opV_load rfl rfl (by simp (disch := omega) only [go_sem, Nat.reduceEqDiff, iteP, elemsL, rowE, sumsL, sumD, sumD_length, hR, he, hr, hli] <;> rfl)) ?_ | refine Head.p hF rfl rfl rfl ?_
          first | refine Head.c hF rfl rfl (by kernel_rfl) rfl rfl rfl (cc) ?_ | refine Head.p hF rfl rfl rfl ?_
          first | refine Head.v hF rfl rfl rfl (opV_pickT rfl rfl rfl) ?_ | refine Head.v hF rfl rfl rfl (opV_pickF rfl rfl rfl) ?_
          refine Head.v hF rfl rfl rfl (opV_move rfl rfl) ?_
          first | refine Head.v hF rfl rfl rfl (opV_move rfl rfl) ?_ | refine Head.p hF rfl rfl rfl ?_
          first | refine Head.v hF rfl rfl rfl (opV_len rfl rfl (by simp (disch := omega) only [go_sem, Nat.reduceEqDiff, iteP, elemsL, rowE, sumsL, sumD, sumD_length, hR, he, hr, hli] <;> rfl)) ?_ | refine Head.p hF rfl rfl rfl ?_
          first | refine Head.v hF rfl rfl rfl (opV_move rfl rfl) ?_ | refine Head.p hF rfl rfl rfl ?_
          first | refine Head.v hF rfl rfl rfl (opV_move rfl rfl) ?_ | refine Head.p hF rfl rfl rfl ?_
          first | refine Head.v hF rfl rfl rfl (opV_move rfl rfl) ?_ | refine Head.p hF rfl rfl rfl ?_
          first | refine Head.v hF rfl rfl rfl (opV_indexAddr rfl rfl rfl (by simp (disch := omega) only [go_sem, Nat.reduceEqDiff, iteP, elemsL, rowE, sumsL, sumD, sumD_length, hR, he, hr, hli] <;> rfl)) ?_ | refine Head.p hF rfl rfl rfl ?_
          first | refine Head.v hF rfl rfl rfl (opV_load rfl rfl (by simp (disch := omega) only [go_sem, Nat.reduceEqDiff, iteP, elemsL, rowE, sumsL, sumD, sumD_length, hR, he, hr, hli] <;> rfl)) ?_ | refine Head.p hF rfl rfl rfl ?_
          first | refine Head.v hF rfl rfl rfl (opV_move rfl rfl) ?_ | refine Head.p hF rfl rfl rfl ?_
          first | refine Head.c hF rfl rfl (by kernel_rfl) rfl rfl rfl (k1) ?_ | refine Head.p hF rfl rfl rfl ?_
          first | refine Head.v hF rfl rfl rfl (opV_move rfl rfl) ?_ | refine Head.p hF rfl rfl rfl ?_
          first | refine Head.v hF rfl rfl rfl (opV_len rfl rfl (by simp (disch := omega) only [go_sem, Nat.reduceEqDiff, iteP, elemsL, rowE, sumsL, sumD, sumD_length, hR, he, hr, hli] <;> rfl)) ?_ | refine Head.p hF rfl rfl rfl ?_
          first | refine Head.v hF rfl rfl rfl (opV_move rfl rfl) ?_ | refine Head.p hF rfl rfl rfl ?_
          first | refine Head.v hF rfl rfl rfl (opV_move rfl rfl) ?_ | refine Head.p hF rfl rfl rfl ?_
          first | refine Head.v hF rfl rfl rfl (opV_move rfl rfl) ?_ | refine Head.p hF rfl rfl rfl ?_
          first | refine Head.v hF rfl rfl rfl (opV_indexAddr rfl rfl rfl (by simp (disch := omega) only [go_sem, Nat.reduceEqDiff, iteP, elemsL, rowE, sumsL, sumD, sumD_length, hR, he, hr, hli] <;> rfl)) ?_ | refine Head.p hF rfl rfl rfl ?_
          first | refine Head.v hF rfl rfl rfl (opV_load rfl rfl (by simp (disch := omega) only [go_sem, Nat.reduceEqDiff, iteP, elemsL, rowE, sumsL, sumD, sumD_length, hR, he, hr, hli] <;> rfl)) ?_ | refine Head.p hF rfl rfl rfl ?_
          first | refine Head.v hF rfl rfl rfl (opV_move rfl rfl) ?_ | refine Head.p hF rfl rfl rfl ?_
          first | refine Head.v hF rfl rfl rfl (opV_move rfl rfl) ?_ | refine Head.p hF rfl rfl rfl ?_
          first | refine Head.v hF rfl rfl rfl (opV_indexAddr rfl rfl rfl (by simp (disch := omega) only [go_sem, Nat.reduceEqDiff, iteP, elemsL, rowE, sumsL, sumD, sumD_length, hR, he, hr, hli] <;> rfl)) ?_ | refine Head.p hF rfl rfl rfl ?_
          first | refine Head.v hF rfl rfl rfl (opV_load rfl rfl (by simp (disch := omega) only [go_sem, Nat.reduceEqDiff, iteP, elemsL, rowE, sumsL, sumD, sumD_length, hR, he, hr, hli] <;> rfl)) ?_ | refine Head.p hF rfl rfl rfl ?_
          first | refine Head.c hF rfl rfl (by kernel_rfl) rfl rfl rfl (k2) ?_ | refine Head.p hF rfl rfl rfl ?_
          first | refine Head.c hF rfl rfl (by kernel_rfl) rfl rfl rfl (k3) ?_ | refine Head.p hF rfl rfl rfl ?_
          first | refine Head.v hF rfl rfl rfl (opV_un rfl rfl (by first | exact rd_notT _ | exact rd_notF _ | exact rd_not _)) ?_ | refine Head.p hF rfl rfl rfl ?_
          first | refine Head.v hF rfl rfl rfl (opV_pickT rfl rfl rfl) ?_ | refine Head.v hF rfl rfl rfl (opV_pickF rfl rfl rfl) ?_
          refine Head.last ⟨rfl, ?_⟩
          simp only [List.drop_succ_cons, List.drop_zero, List.drop_nil, List.nil_append, List.cons_append]
          refine SmG.nil ?_
          refine nextS_normal ?_
          refine Sm.condF hF rfl ?_
          refine Sm.skip ?_
          refine blockS_normal ?_
          refine nextS_normal ?_
          refine Sm.regionG hF rfl ?_
          refine SmG.v hF rfl rfl rfl (opV_move rfl rfl) ?_
          refine SmG.v hF rfl rfl rfl (opV_bin rfl rfl rfl (by first | exact rd_add _ _ _ _ _ (wrapI64 _ (by omega)) | exact rb_add _ _ _ _ _ _ _)) ?_
          refine SmG.v hF rfl rfl rfl (opV_assign rfl rfl) ?_
          refine SmG.nil ?_
          refine nextS_normal ?_
          exact ⟨⟨c + 1, by omega⟩, by show 2 - (c + 1) < 2 - c; omega, by exact St.le_of (by simp [leE, look, constD]) (by simp [leH, look, rep]) (by first | exact Nat.le_refl _ | (dsimp only; omega))⟩

    · refine Sm.seq ?_
      refine Sm.seq ?_
      refine Sm.regionG hF rfl ?_
      refine SmG.v hF rfl rfl rfl (opV_move rfl rfl) ?_
      refine SmG.v hF rfl rfl rfl (opV_bin rfl rfl rfl (by first | exact rd_lssT _ _ _ _ _ (by omega) | exact rd_lssF _ _ _ _ _ (by omega) | exact rb_lss _ _ _ _ _ _ _)) ?_
      refine SmG.nil ?_
      refine nextS_normal ?_
      refine Sm.condF hF rfl ?_
      refine Sm.exit ?_
      simp only [nextS, blockS, reduceIte, reduceCtorEq]
      refine Sm.regionG hF rfl ?_
      refine SmG.v hF rfl rfl rfl (opV_move rfl rfl) ?_
      refine SmG.v hF rfl rfl rfl (opV_bin rfl rfl rfl (by first | exact rd_add _ _ _ _ _ (wrapI64 _ (by omega)) | exact rb_add _ _ _ _ _ _ _)) ?_
      refine SmG.v hF rfl rfl rfl (opV_assign rfl rfl) ?_
      refine SmG.nil ?_
      refine nextS_normal ?_
      exact ⟨⟨a + 1, by omega⟩, by show 2 - (a + 1) < 2 - a; omega, by exact St.le_of (by simp [leE, look, constD]) (by simp [leH, look, rep]) (by first | exact Nat.le_refl _ | (dsimp only; omega))⟩

  · refine Sm.seq ?_
    refine Sm.seq ?_
    refine Sm.regionG hF rfl ?_
    refine SmG.v hF rfl rfl rfl (opV_move rfl rfl) ?_
    refine SmG.v hF rfl rfl rfl (opV_bin rfl rfl rfl (by first | exact rd_lssT _ _ _ _ _ (by omega) | exact rd_lssF _ _ _ _ _ (by omega) | exact rb_lss _ _ _ _ _ _ _)) ?_
    refine SmG.nil ?_
    refine nextS_normal ?_
    refine Sm.condF hF rfl ?_
    refine Sm.exit ?_
    simp only [nextS, blockS, reduceIte, reduceCtorEq]
    refine Sm.seq ?_
    refine Sm.regionG hF rfl ?_
    refine SmG.v hF rfl rfl rfl (opV_move rfl rfl) ?_
    refine SmG.v hF rfl rfl rfl (opV_assign rfl rfl) ?_
    refine SmG.nil ?_
    refine nextS_normal ?_
    refine Sm.ret ?_
    refine ⟨_, rfl, ?_⟩; dsimp only
    exact D.le.refl _
end Go.Proofs.YtmindblfbijaaaaDoor
namespace Go.Proofs.YtmindblfbijaaaaDoor
open Go.RowKit
set_option maxRecDepth 100000
theorem xor8 (a b : UInt8) : bits BinOp.xor IntKind.u8 a.toNat b.toNat = ((a ^^^ b).toNat : Int) := by
  have ha : BitVec.ofInt 8 (a.toNat : Int) = a.toBitVec := by
    apply BitVec.eq_of_toNat_eq
    rw [BitVec.toNat_ofInt]
    have := a.toNat_lt
    simp only [UInt8.toNat_toBitVec]
    omega
  have hb : BitVec.ofInt 8 (b.toNat : Int) = b.toBitVec := by
    apply BitVec.eq_of_toNat_eq
    rw [BitVec.toNat_ofInt]
    have := b.toNat_lt
    simp only [UInt8.toNat_toBitVec]
    omega
  show IntKind.u8.wrap ((BitVec.ofInt 8 (a.toNat : Int) ^^^ BitVec.ofInt 8 (b.toNat : Int)).toNat : Int) = _
  rw [ha, hb, ← UInt8.toBitVec_xor, UInt8.toNat_toBitVec]
  exact wrapU8 _ (by have := (a ^^^ b).toNat_lt; omega)
theorem rw_xor8 (P : Program) (t : TypeId) (x y : Operand) (a b : UInt8) : reck P (do eqGuard .xor t x y (.int .u8 a.toNat) (.int .u8 b.toNat); binOp .xor t (.int .u8 a.toNat) (.int .u8 b.toNat)) = some (.int .u8 ((a ^^^ b).toNat : Int)) := by
  rw [rb_xor]; exact congrArg (fun n => some (Value.int .u8 n)) (xor8 a b)
def four (w0 w1 w2 w3 : UInt8) : D := .agg 4 [byteD w0, byteD w1, byteD w2, byteD w3]
theorem storeByte (h : List (Nat × Blk)) (l k j : Nat) (p : List (List UInt8)) (c : UInt8) (hl : look h l = some (dB 32 (p.map rowS))) (hk : k < p.length) (hj : j < 32) : storeS Tryd.prog h 5 (.ref l k j) (.d (.v (.int .u8 (c.toNat : Int)))) = some (.upd l (dB 32 ((p.set k (p[k].set j c)).map rowS))) := by
  have hr : (dB 32 (p.map rowS)).rows[k]? = some ((rowS p[k]).map V.d) := by simp [hk]
  simp only [storeS, hl, Option.bind_some, hr, cellsV, Value.oneCell', if_true, sz5]
  rw [if_pos (by refine ⟨by trivial, ?_⟩; show j + 1 ≤ 32; omega), if_neg (by simp)]
  have : ((rowS p[k]).map V.d).set j (.d (.v (.int .u8 (c.toNat : Int)))) = (rowS (p[k].set j c)).map V.d := by simp [rowS, List.map_set, byteD]
  rw [this, set_row]
theorem mod_byte (a : UInt8) : a.toNat % 32 < 32 := Nat.mod_lt _ (by omega)
theorem same_nil : CallsD Tryd.prog HG 22 [.list 32 [] true, .list 32 [] false] (.v (.bool true)) := (same_self [] (fun _ h => by cases h) (by simp)).args fun C => outs_le (D.le_nil' 32 32 true) (outs_same _)

theorem match_D (b : List UInt8) (xs : List (List UInt8)) (w0 w1 w2 w3 : UInt8) (hb : b.length ≤ 9223372036854775807) (hx : xs.length ≤ 9223372036854775807) : CallsD Tryd.prog HG 3 [bytesL b, elemsL xs, four w0 w1 w2 w3] (.v (.bool true)) := by
  obtain ⟨hF', hl⟩ := fit_elems xs
  simp only [four]
  have hw0 := w0.toNat_lt
  have hw1 := w1.toNat_lt
  have hw2 := w2.toNat_lt
  by_cases hb300 : 300 < b.length
  · refine CallsD.of Tryd.func3 rfl Tryd.ntmps3 (by simp) ?_; intro F hF; simp only [List.zipIdx_cons, List.zipIdx_nil, List.map_cons, List.map_nil, Nat.zero_add, Nat.reduceAdd]
    refine Sm.seq ?_
    refine Sm.regionG hF rfl ?_
    refine SmG.new hF rfl rfl rfl (opS_box rfl rfl (by simp (disch := omega) only [go_sem, Nat.reduceEqDiff, iteP, elemsL, bytesL] <;> rfl)) ?_
    refine SmG.v hF rfl rfl rfl (opV_assign rfl rfl) ?_
    refine SmG.nil ?_
    refine nextS_normal ?_
    refine Sm.seq ?_
    refine Sm.regionG hF rfl ?_
    refine SmG.call hF rfl rfl (by kernel_rfl) rfl rfl rfl (sanity_D) ?_
    refine SmG.v hF rfl rfl rfl (opV_assign rfl rfl) ?_
    refine SmG.nil ?_
    refine nextS_normal ?_
    refine Sm.seq ?_
    refine Sm.seq ?_
    refine Sm.regionG hF rfl ?_
    refine SmG.v hF rfl rfl rfl (opV_move rfl rfl) ?_
    refine SmG.v hF rfl rfl rfl (opV_len rfl rfl (by simp (disch := omega) only [go_sem, Nat.reduceEqDiff, iteP, elemsL, bytesL] <;> rfl)) ?_
    refine SmG.v hF rfl rfl rfl (opV_bin rfl rfl rfl (by first | exact rd_gtrT _ _ _ _ _ (by omega) | exact rd_gtrF _ _ _ _ _ (by omega) | exact rb_gtr _ _ _ _ _ _ _)) ?_
    refine SmG.nil ?_
    refine nextS_normal ?_
    refine Sm.condT hF rfl ?_
    refine Sm.seq ?_
    refine Sm.regionG hF rfl ?_
    refine SmG.v hF rfl rfl rfl (opV_move rfl rfl) ?_
    refine SmG.v hF rfl rfl rfl (opV_assign rfl rfl) ?_
    refine SmG.nil ?_
    refine nextS_normal ?_
    refine Sm.ret ?_
    simp only [nextS, blockS]
    refine ⟨_, rfl, ?_⟩; dsimp only
    exact D.le.refl _
  have s1 := sum_D b (by omega)
  have s2 := refSum_D b (by omega) HG
  have l1 := leaf_D b (by omega)
  have l2 := refLeaf_D b (by omega) HG
  have hS := Sha.sum_len b
  have hL := Sha.leaf_len b
  generalize Sha.sum b = S at s1 s2 hS
  generalize Sha.leaf b = L at l1 l2 hL
  have p1 := pair_D S L hS hL
  have p2 := refPair_D S L hS hL HG
  have hPr := Sha.pair_len S L
  generalize Sha.pair S L = PR at p1 p2 hPr
  have e1 := eq_self hS
  have e2 := eq_self hL
  have e3 := eq_self hPr

  have r1 := root_D _ hF'
  have r2 := refRoot_D HG _ _ rfl hF'
  have hR := Sha.root_len (elems xs)
  have hcp := fun i b => Sha.check_proof (l := elems xs) (i := i) (b := b)
  generalize Sha.root (elems xs) = R at r1 r2 hR hcp
  have e4 := eq_self hR
  refine CallsD.of Tryd.func3 rfl Tryd.ntmps3 (by simp) ?_; intro F hF; simp only [List.zipIdx_cons, List.zipIdx_nil, List.map_cons, List.map_nil, Nat.zero_add, Nat.reduceAdd]
  refine Sm.seq ?_
  refine Sm.regionG hF rfl ?_
  refine SmG.new hF rfl rfl rfl (opS_box rfl rfl (by simp (disch := omega) only [go_sem, Nat.reduceEqDiff, iteP, elemsL, bytesL, sumD, sumD_length, hS, e1, e2, e3, e4] <;> rfl)) ?_
  refine SmG.v hF rfl rfl rfl (opV_assign rfl rfl) ?_
  refine SmG.nil ?_
  refine nextS_normal ?_
  refine Sm.seq ?_
  refine Sm.regionG hF rfl ?_
  refine SmG.call hF rfl rfl (by kernel_rfl) rfl rfl rfl (sanity_D) ?_
  refine SmG.v hF rfl rfl rfl (opV_assign rfl rfl) ?_
  refine SmG.nil ?_
  refine nextS_normal ?_
  refine Sm.seq ?_
  refine Sm.seq ?_
  refine Sm.regionG hF rfl ?_
  refine SmG.v hF rfl rfl rfl (opV_move rfl rfl) ?_
  refine SmG.v hF rfl rfl rfl (opV_len rfl rfl (by simp (disch := omega) only [go_sem, Nat.reduceEqDiff, iteP, elemsL, bytesL, sumD, sumD_length, hS, e1, e2, e3, e4] <;> rfl)) ?_
  refine SmG.v hF rfl rfl rfl (opV_bin rfl rfl rfl (by first | exact rd_gtrT _ _ _ _ _ (by omega) | exact rd_gtrF _ _ _ _ _ (by omega) | exact rb_gtr _ _ _ _ _ _ _)) ?_
  refine SmG.nil ?_
  refine nextS_normal ?_
  refine Sm.condF hF rfl ?_
  refine Sm.skip ?_
  refine nextS_normal ?_
  refine Sm.seq ?_
  refine Sm.regionG hF rfl ?_
  refine SmG.v hF rfl rfl rfl (opV_move rfl rfl) ?_
  refine SmG.call hF rfl rfl (by kernel_rfl) rfl rfl rfl (elements_D xs hx) ?_
  refine SmG.v hF rfl rfl rfl (opV_assign rfl rfl) ?_
  refine SmG.nil ?_
  refine nextS_normal ?_
  refine Sm.seq ?_
  refine Sm.regionG hF rfl ?_
  refine SmG.v hF rfl rfl rfl (opV_move rfl rfl) ?_
  refine SmG.call hF rfl rfl (by kernel_rfl) rfl rfl rfl (s1) ?_
  refine SmG.new hF rfl rfl rfl (opS_alloc rfl al28) ?_
  refine SmG.store hF rfl rfl rfl rfl rfl (by simp (disch := omega) only [go_sem, Nat.reduceEqDiff, iteP, elemsL, bytesL, sumD, sumD_length, hS, e1, e2, e3, e4] <;> rfl) ?_
  refine SmG.nil ?_
  refine nextS_normal ?_
  refine Sm.seq ?_
  refine Sm.seq ?_
  refine Sm.drawG hF (by kernel_rfl) rfl 29 (by kernel_rfl) (by kernel_rfl) ?_
  simp only [List.take_succ_cons, List.take_zero, List.take_nil]
  refine Head.v hF rfl rfl rfl (opV_load rfl rfl (by simp (disch := omega) only [go_sem, Nat.reduceEqDiff, iteP, elemsL, bytesL, sumD, sumD_length, hS, e1, e2, e3, e4] <;> rfl)) ?_
  refine Head.v hF rfl rfl rfl (opV_move rfl rfl) ?_
  refine Head.c hF rfl rfl (by kernel_rfl) rfl rfl rfl (s2) ?_
  refine Head.v hF rfl rfl rfl (opV_neA rfl rfl rfl (by simp (disch := omega) only [go_sem, Nat.reduceEqDiff, iteP, elemsL, bytesL, sumD, sumD_length, hS, e1, e2, e3, e4] <;> rfl)) ?_
  refine Head.v hF rfl rfl rfl (opV_move rfl rfl) ?_
  first | refine Head.v hF rfl rfl rfl (opV_move rfl rfl) ?_ | refine Head.p hF rfl rfl rfl ?_
  first | refine Head.c hF rfl rfl (by kernel_rfl) rfl rfl rfl (l1) ?_ | refine Head.p hF rfl rfl rfl ?_
  first | refine Head.v hF rfl rfl rfl (opV_move rfl rfl) ?_ | refine Head.p hF rfl rfl rfl ?_
  first | refine Head.c hF rfl rfl (by kernel_rfl) rfl rfl rfl (l2) ?_ | refine Head.p hF rfl rfl rfl ?_
  first | refine Head.v hF rfl rfl rfl (opV_neA rfl rfl rfl (by simp (disch := omega) only [go_sem, Nat.reduceEqDiff, iteP, elemsL, bytesL, sumD, sumD_length, hS, e1, e2, e3, e4] <;> rfl)) ?_ | refine Head.p hF rfl rfl rfl ?_
  first | refine Head.v hF rfl rfl rfl (opV_pickT rfl rfl rfl) ?_ | refine Head.v hF rfl rfl rfl (opV_pickF rfl rfl rfl) ?_
  refine Head.v hF rfl rfl rfl (opV_move rfl rfl) ?_
  first | refine Head.v hF rfl rfl rfl (opV_load rfl rfl (by simp (disch := omega) only [go_sem, Nat.reduceEqDiff, iteP, elemsL, bytesL, sumD, sumD_length, hS, e1, e2, e3, e4] <;> rfl)) ?_ | refine Head.p hF rfl rfl rfl ?_
  first | refine Head.v hF rfl rfl rfl (opV_move rfl rfl) ?_ | refine Head.p hF rfl rfl rfl ?_
  first | refine Head.c hF rfl rfl (by kernel_rfl) rfl rfl rfl (l1) ?_ | refine Head.p hF rfl rfl rfl ?_
  first | refine Head.c hF rfl rfl (by kernel_rfl) rfl rfl rfl (p1) ?_ | refine Head.p hF rfl rfl rfl ?_
  first | refine Head.v hF rfl rfl rfl (opV_load rfl rfl (by simp (disch := omega) only [go_sem, Nat.reduceEqDiff, iteP, elemsL, bytesL, sumD, sumD_length, hS, e1, e2, e3, e4] <;> rfl)) ?_ | refine Head.p hF rfl rfl rfl ?_
  first | refine Head.v hF rfl rfl rfl (opV_move rfl rfl) ?_ | refine Head.p hF rfl rfl rfl ?_
  first | refine Head.c hF rfl rfl (by kernel_rfl) rfl rfl rfl (l2) ?_ | refine Head.p hF rfl rfl rfl ?_
  first | refine Head.c hF rfl rfl (by kernel_rfl) rfl rfl rfl (p2) ?_ | refine Head.p hF rfl rfl rfl ?_
  first | refine Head.v hF rfl rfl rfl (opV_neA rfl rfl rfl (by simp (disch := omega) only [go_sem, Nat.reduceEqDiff, iteP, elemsL, bytesL, sumD, sumD_length, hS, e1, e2, e3, e4] <;> rfl)) ?_ | refine Head.p hF rfl rfl rfl ?_
  first | refine Head.v hF rfl rfl rfl (opV_pickT rfl rfl rfl) ?_ | refine Head.v hF rfl rfl rfl (opV_pickF rfl rfl rfl) ?_
  refine Head.v hF rfl rfl rfl (opV_move rfl rfl) ?_
  first | refine Head.v hF rfl rfl rfl (opV_move rfl rfl) ?_ | refine Head.p hF rfl rfl rfl ?_
  first | refine Head.c hF rfl rfl (by kernel_rfl) rfl rfl rfl (r1) ?_ | refine Head.p hF rfl rfl rfl ?_
  first | refine Head.v hF rfl rfl rfl (opV_move rfl rfl) ?_ | refine Head.p hF rfl rfl rfl ?_
  first | refine Head.c hF rfl rfl (by kernel_rfl) rfl rfl rfl (r2) ?_ | refine Head.p hF rfl rfl rfl ?_
  first | refine Head.v hF rfl rfl rfl (opV_neA rfl rfl rfl (by simp (disch := omega) only [go_sem, Nat.reduceEqDiff, iteP, elemsL, bytesL, sumD, sumD_length, hS, e1, e2, e3, e4] <;> rfl)) ?_ | refine Head.p hF rfl rfl rfl ?_
  first | refine Head.v hF rfl rfl rfl (opV_pickT rfl rfl rfl) ?_ | refine Head.v hF rfl rfl rfl (opV_pickF rfl rfl rfl) ?_
  refine Head.last ⟨rfl, ?_⟩
  simp only [List.drop_succ_cons, List.drop_zero, List.drop_nil, List.nil_append, List.cons_append]
  refine SmG.nil ?_
  refine nextS_normal ?_
  refine Sm.condF hF rfl ?_
  refine Sm.skip ?_
  refine nextS_normal ?_
  refine Sm.seq ?_
  refine Sm.seq ?_
  refine Sm.regionG hF rfl ?_
  refine SmG.v hF rfl rfl rfl (opV_assign rfl rfl) ?_
  refine SmG.nil ?_
  refine nextS_normal ?_
  refine Sm.block ?_
  generalize elems xs = l at hF' hl hcp r1 r2 ⊢
  refine Sm.loop (ι := {k : Nat // k ≤ l.length + 2}) (fun k => ⟨[(5, .ref 0 0 0), (7, .d (.v (.bool true))), (8, .d (elemsL l)), (10, .d (.v (.int .i64 ((k.1 : Int) - 1))))], [(0, dB 4 [[byteD w0, byteD w1, byteD w2, byteD w3]])], 2⟩) (fun k => l.length + 2 - k.1) (⟨0, by omega⟩) ?_ ?_
  · exact St.le_of (by first | (simp [leE, look, constD] <;> omega) | (simp [leE, look, constD, true_and] <;> omega)) (by simp only [leH, look, rep, reduceIte, Nat.reduceEqDiff, List.set_cons_zero, List.set_cons_succ, true_and, and_self, and_true, and_false, false_and, if_true, if_false] <;> (repeat' first | rfl | constructor)) (by first | exact Nat.le_refl _ | (dsimp only; omega))
  rintro ⟨k, hk⟩
  simp only

  by_cases hlt : k ≤ l.length + 1
  · by_cases hin : 1 ≤ k ∧ k - 1 < l.length
    · have c0 := proof_D l (k - 1) hF' hin.2
      have c1 : CallsD Tryd.prog HG 21 [elemsL l, .v (.int .i64 ((k - 1 : Nat) : Int))] (.agg 2 [.list 32 ((Sha.proof l (k - 1)).map rowS) false, .v (.int .i64 0)]) := (refProof_O _ l (k - 1) rfl hF' hin.2).data
      rw [show ((k - 1 : Nat) : Int) = (k : Int) - 1 by omega] at c0 c1
      have hP := proof_len32' l (k - 1)
      have hPl := proof_le l (k - 1)
      generalize Sha.proof l (k - 1) = p at c0 c1 hP hPl
      have c2 := same_self p hP (by omega)

      refine Sm.seq ?_
      refine Sm.seq ?_
      refine Sm.regionG hF rfl ?_
      refine SmG.v hF rfl rfl rfl (opV_move rfl rfl) ?_
      refine SmG.v hF rfl rfl rfl (opV_move rfl rfl) ?_
      refine SmG.v hF rfl rfl rfl (opV_len rfl rfl (by simp (disch := omega) only [go_sem, Nat.reduceEqDiff, iteP, elemsL, sumsL] <;> rfl)) ?_
      refine SmG.v hF rfl rfl rfl (opV_bin rfl rfl rfl (by first | exact rd_leqT _ _ _ _ _ (by omega) | exact rd_leqF _ _ _ _ _ (by omega) | exact rb_leq _ _ _ _ _ _ _)) ?_
      refine SmG.nil ?_
      refine nextS_normal ?_
      refine Sm.condT hF rfl ?_
      refine Sm.skip ?_
      refine nextS_normal ?_
      refine Sm.seq ?_
      refine Sm.block ?_
      refine Sm.seq ?_
      refine Sm.regionG hF rfl ?_
      refine SmG.v hF rfl rfl rfl (opV_move rfl rfl) ?_
      refine SmG.v hF rfl rfl rfl (opV_move rfl rfl) ?_
      refine SmG.call hF rfl rfl (by kernel_rfl) rfl rfl rfl (c0) ?_
      refine SmG.v hF rfl rfl rfl (opV_move rfl rfl) ?_
      refine SmG.v hF rfl rfl rfl (by first | exact opV_extract rfl rfl rfl | exact opV_extract0 rfl rfl) ?_
      refine SmG.v hF rfl rfl rfl (by first | exact opV_extract rfl rfl rfl | exact opV_extractS rfl rfl rfl) ?_
      refine SmG.v hF rfl rfl rfl (opV_assign rfl rfl) ?_
      refine SmG.v hF rfl rfl rfl (opV_assign rfl rfl) ?_
      refine SmG.nil ?_
      refine nextS_normal ?_
      refine Sm.seq ?_
      refine Sm.regionG hF rfl ?_
      refine SmG.v hF rfl rfl rfl (opV_move rfl rfl) ?_
      refine SmG.v hF rfl rfl rfl (opV_move rfl rfl) ?_
      refine SmG.call hF rfl rfl (by kernel_rfl) rfl rfl rfl (c1) ?_
      refine SmG.new hF rfl rfl rfl (opS_alloc rfl al37) ?_
      refine SmG.store hF rfl rfl rfl rfl rfl (by simp (disch := omega) only [go_sem, Nat.reduceEqDiff, iteP, elemsL, sumsL] <;> rfl) ?_
      refine SmG.nil ?_
      refine nextS_normal ?_
      refine Sm.seq ?_
      refine Sm.regionG hF rfl ?_
      refine SmG.v hF rfl rfl rfl (opV_move rfl rfl) ?_
      refine SmG.v hF rfl rfl rfl (opV_fieldAddr rfl rfl (by simp (disch := omega) only [go_sem, Nat.reduceEqDiff, iteP, elemsL, sumsL] <;> rfl)) ?_
      refine SmG.v hF rfl rfl rfl (opV_load rfl rfl (by simp (disch := omega) only [go_sem, Nat.reduceEqDiff, iteP, elemsL, sumsL] <;> rfl)) ?_
      refine SmG.call hF rfl rfl (by kernel_rfl) rfl rfl rfl (c2) ?_
      refine SmG.v hF rfl rfl rfl (opV_un rfl rfl (by first | exact rd_notT _ | exact rd_notF _ | exact rd_not _)) ?_
      refine SmG.v hF rfl rfl rfl (opV_move rfl rfl) ?_
      first | refine SmG.v hF rfl rfl rfl (opV_move rfl rfl) ?_ | refine SmG.pass hF rfl rfl rfl ?_
      first | refine SmG.v hF rfl rfl rfl (opV_fieldAddr rfl rfl (by simp (disch := omega) only [go_sem, Nat.reduceEqDiff, iteP, elemsL, sumsL] <;> rfl)) ?_ | refine SmG.pass hF rfl rfl rfl ?_
      first | refine SmG.v hF rfl rfl rfl (opV_load rfl rfl (by simp (disch := omega) only [go_sem, Nat.reduceEqDiff, iteP, elemsL, sumsL] <;> rfl)) ?_ | refine SmG.pass hF rfl rfl rfl ?_
      first | refine SmG.v hF rfl rfl rfl (opV_bin rfl rfl rfl (by first | exact rd_neqT _ _ _ _ _ (by omega) | exact rd_neqF _ _ _ _ _ (by omega) | exact rb_neq _ _ _ _ _ _ _)) ?_ | refine SmG.pass hF rfl rfl rfl ?_
      first | refine SmG.v hF rfl rfl rfl (opV_pickT rfl rfl rfl) ?_ | refine SmG.v hF rfl rfl rfl (opV_pickF rfl rfl rfl) ?_
      refine SmG.nil ?_
      refine nextS_normal ?_
      refine Sm.condF hF rfl ?_
      refine Sm.cut 2 (ltH_over (ltH_cons (ltH_nil _) (lt_dB _ 4 [[byteD w0, byteD w1, byteD w2, byteD w3]])) (Nat.le_refl _)) ?_
      simp only [cutE, cutH, V.lt, Nat.reduceAdd, Nat.reduceLT, decide_true, decide_false, reduceIte, Bool.false_eq_true, Nat.lt_irrefl]
      refine Sm.skip ?_
      refine blockS_normal ?_
      refine nextS_normal ?_
      refine Sm.regionG hF rfl ?_
      refine SmG.v hF rfl rfl rfl (opV_move rfl rfl) ?_
      refine SmG.v hF rfl rfl rfl (opV_bin rfl rfl rfl (by first | exact rd_add _ _ _ _ _ (wrapI64 _ (by omega)) | exact rb_add _ _ _ _ _ _ _)) ?_
      refine SmG.v hF rfl rfl rfl (opV_assign rfl rfl) ?_
      refine SmG.nil ?_
      refine nextS_normal ?_
      exact ⟨⟨k + 1, by omega⟩, by show l.length + 2 - (k + 1) < l.length + 2 - k; omega, by exact St.le_of (by first | (simp [leE, look, constD] <;> omega) | (simp [leE, look, constD, true_and] <;> omega)) (by simp only [leH, look, rep, reduceIte, Nat.reduceEqDiff, List.set_cons_zero, List.set_cons_succ, true_and, and_self, and_true, and_false, false_and, if_true, if_false] <;> (repeat' first | rfl | constructor)) (by first | exact Nat.le_refl _ | (dsimp only; omega))⟩
    · have c0 := proofErr_D l ((k : Int) - 1) (by omega) (by omega)
      have c1 : CallsD Tryd.prog HG 21 [elemsL l, .v (.int .i64 ((k : Int) - 1))] (.agg 2 [.list 32 [] false, .v (.int .i64 1)]) := (refProofErr_O l ((k : Int) - 1) (by omega) (by omega)).data

      refine Sm.seq ?_
      refine Sm.seq ?_
      refine Sm.regionG hF rfl ?_
      refine SmG.v hF rfl rfl rfl (opV_move rfl rfl) ?_
      refine SmG.v hF rfl rfl rfl (opV_move rfl rfl) ?_
      refine SmG.v hF rfl rfl rfl (opV_len rfl rfl (by simp (disch := omega) only [go_sem, Nat.reduceEqDiff, iteP, elemsL, sumsL] <;> rfl)) ?_
      refine SmG.v hF rfl rfl rfl (opV_bin rfl rfl rfl (by first | exact rd_leqT _ _ _ _ _ (by omega) | exact rd_leqF _ _ _ _ _ (by omega) | exact rb_leq _ _ _ _ _ _ _)) ?_
      refine SmG.nil ?_
      refine nextS_normal ?_
      refine Sm.condT hF rfl ?_
      refine Sm.skip ?_
      refine nextS_normal ?_
      refine Sm.seq ?_
      refine Sm.block ?_
      refine Sm.seq ?_
      refine Sm.regionG hF rfl ?_
      refine SmG.v hF rfl rfl rfl (opV_move rfl rfl) ?_
      refine SmG.v hF rfl rfl rfl (opV_move rfl rfl) ?_
      refine SmG.call hF rfl rfl (by kernel_rfl) rfl rfl rfl (c0) ?_
      refine SmG.v hF rfl rfl rfl (opV_move rfl rfl) ?_
      refine SmG.v hF rfl rfl rfl (by first | exact opV_extract rfl rfl rfl | exact opV_extract0 rfl rfl) ?_
      refine SmG.v hF rfl rfl rfl (by first | exact opV_extract rfl rfl rfl | exact opV_extractS rfl rfl rfl) ?_
      refine SmG.v hF rfl rfl rfl (opV_assign rfl rfl) ?_
      refine SmG.v hF rfl rfl rfl (opV_assign rfl rfl) ?_
      refine SmG.nil ?_
      refine nextS_normal ?_
      refine Sm.seq ?_
      refine Sm.regionG hF rfl ?_
      refine SmG.v hF rfl rfl rfl (opV_move rfl rfl) ?_
      refine SmG.v hF rfl rfl rfl (opV_move rfl rfl) ?_
      refine SmG.call hF rfl rfl (by kernel_rfl) rfl rfl rfl (c1) ?_
      refine SmG.new hF rfl rfl rfl (opS_alloc rfl al37) ?_
      refine SmG.store hF rfl rfl rfl rfl rfl (by simp (disch := omega) only [go_sem, Nat.reduceEqDiff, iteP, elemsL, sumsL] <;> rfl) ?_
      refine SmG.nil ?_
      refine nextS_normal ?_
      refine Sm.seq ?_
      refine Sm.regionG hF rfl ?_
      refine SmG.v hF rfl rfl rfl (opV_move rfl rfl) ?_
      refine SmG.v hF rfl rfl rfl (opV_fieldAddr rfl rfl (by simp (disch := omega) only [go_sem, Nat.reduceEqDiff, iteP, elemsL, sumsL] <;> rfl)) ?_
      refine SmG.v hF rfl rfl rfl (opV_load rfl rfl (by simp (disch := omega) only [go_sem, Nat.reduceEqDiff, iteP, elemsL, sumsL] <;> rfl)) ?_
      refine SmG.call hF rfl rfl (by kernel_rfl) rfl rfl rfl (same_nil) ?_
      refine SmG.v hF rfl rfl rfl (opV_un rfl rfl (by first | exact rd_notT _ | exact rd_notF _ | exact rd_not _)) ?_
      refine SmG.v hF rfl rfl rfl (opV_move rfl rfl) ?_
      first | refine SmG.v hF rfl rfl rfl (opV_move rfl rfl) ?_ | refine SmG.pass hF rfl rfl rfl ?_
      first | refine SmG.v hF rfl rfl rfl (opV_fieldAddr rfl rfl (by simp (disch := omega) only [go_sem, Nat.reduceEqDiff, iteP, elemsL, sumsL] <;> rfl)) ?_ | refine SmG.pass hF rfl rfl rfl ?_
      first | refine SmG.v hF rfl rfl rfl (opV_load rfl rfl (by simp (disch := omega) only [go_sem, Nat.reduceEqDiff, iteP, elemsL, sumsL] <;> rfl)) ?_ | refine SmG.pass hF rfl rfl rfl ?_
      first | refine SmG.v hF rfl rfl rfl (opV_bin rfl rfl rfl (by first | exact rd_neqT _ _ _ _ _ (by omega) | exact rd_neqF _ _ _ _ _ (by omega) | exact rb_neq _ _ _ _ _ _ _)) ?_ | refine SmG.pass hF rfl rfl rfl ?_
      first | refine SmG.v hF rfl rfl rfl (opV_pickT rfl rfl rfl) ?_ | refine SmG.v hF rfl rfl rfl (opV_pickF rfl rfl rfl) ?_
      refine SmG.nil ?_
      refine nextS_normal ?_
      refine Sm.condF hF rfl ?_
      refine Sm.cut 2 (ltH_over (ltH_cons (ltH_nil _) (lt_dB _ 4 [[byteD w0, byteD w1, byteD w2, byteD w3]])) (Nat.le_refl _)) ?_
      simp only [cutE, cutH, V.lt, Nat.reduceAdd, Nat.reduceLT, decide_true, decide_false, reduceIte, Bool.false_eq_true, Nat.lt_irrefl]
      refine Sm.skip ?_
      refine blockS_normal ?_
      refine nextS_normal ?_
      refine Sm.regionG hF rfl ?_
      refine SmG.v hF rfl rfl rfl (opV_move rfl rfl) ?_
      refine SmG.v hF rfl rfl rfl (opV_bin rfl rfl rfl (by first | exact rd_add _ _ _ _ _ (wrapI64 _ (by omega)) | exact rb_add _ _ _ _ _ _ _)) ?_
      refine SmG.v hF rfl rfl rfl (opV_assign rfl rfl) ?_
      refine SmG.nil ?_
      refine nextS_normal ?_
      exact ⟨⟨k + 1, by omega⟩, by show l.length + 2 - (k + 1) < l.length + 2 - k; omega, by exact St.le_of (by first | (simp [leE, look, constD] <;> omega) | (simp [leE, look, constD, true_and] <;> omega)) (by simp only [leH, look, rep, reduceIte, Nat.reduceEqDiff, List.set_cons_zero, List.set_cons_succ, true_and, and_self, and_true, and_false, false_and, if_true, if_false] <;> (repeat' first | rfl | constructor)) (by first | exact Nat.le_refl _ | (dsimp only; omega))⟩

  by_cases h0 : l.length = 0
  · refine Sm.seq ?_
    refine Sm.seq ?_
    refine Sm.regionG hF rfl ?_
    refine SmG.v hF rfl rfl rfl (opV_move rfl rfl) ?_
    refine SmG.v hF rfl rfl rfl (opV_move rfl rfl) ?_
    refine SmG.v hF rfl rfl rfl (opV_len rfl rfl (by simp (disch := omega) only [go_sem, Nat.reduceEqDiff, iteP, elemsL] <;> rfl)) ?_
    refine SmG.v hF rfl rfl rfl (opV_bin rfl rfl rfl (by first | exact rd_leqT _ _ _ _ _ (by omega) | exact rd_leqF _ _ _ _ _ (by omega) | exact rb_leq _ _ _ _ _ _ _)) ?_
    refine SmG.nil ?_
    refine nextS_normal ?_
    refine Sm.condF hF rfl ?_
    refine Sm.exit ?_
    simp only [nextS, blockS, reduceIte, reduceCtorEq]
    refine Sm.seq ?_
    refine Sm.seq ?_
    refine Sm.regionG hF rfl ?_
    refine SmG.v hF rfl rfl rfl (opV_move rfl rfl) ?_
    refine SmG.v hF rfl rfl rfl (opV_len rfl rfl (by simp (disch := omega) only [go_sem, Nat.reduceEqDiff, iteP, elemsL] <;> rfl)) ?_
    refine SmG.v hF rfl rfl rfl (opV_bin rfl rfl rfl (by first | exact rd_eqlT _ _ _ _ _ (by omega) | exact rd_eqlF _ _ _ _ _ (by omega) | exact rb_eql _ _ _ _ _ _ _)) ?_
    refine SmG.nil ?_
    refine nextS_normal ?_
    refine Sm.condT hF rfl ?_
    refine Sm.seq ?_
    refine Sm.regionG hF rfl ?_
    refine SmG.v hF rfl rfl rfl (opV_move rfl rfl) ?_
    refine SmG.v hF rfl rfl rfl (opV_assign rfl rfl) ?_
    refine SmG.nil ?_
    refine nextS_normal ?_
    refine Sm.ret ?_
    simp only [nextS, blockS]
    refine ⟨_, rfl, ?_⟩; dsimp only
    exact D.le.refl _
  have hi : w0.toNat % l.length < l.length := Nat.mod_lt _ (by omega)
  have c1 : CallsD Tryd.prog HG 21 [elemsL l, .v (.int .i64 ((w0.toNat % l.length : Nat) : Int))] (.agg 2 [.list 32 ((Sha.proof l (w0.toNat % l.length)).map rowS) false, .v (.int .i64 0)]) := (refProof_O _ l _ rfl hF' hi).data
  have hli : l[w0.toNat % l.length]? = some l[w0.toNat % l.length] := by simp
  have hP := proof_len32' l (w0.toNat % l.length)
  have hPl := proof_le l (w0.toNat % l.length)
  have hbl := hF'.2 _ (List.getElem_mem hi)
  generalize l[w0.toNat % l.length] = e at hli hbl
  generalize Sha.proof l (w0.toNat % l.length) = p at c1 hP hPl

  refine Sm.seq ?_
  refine Sm.seq ?_
  refine Sm.regionG hF rfl ?_
  refine SmG.v hF rfl rfl rfl (opV_move rfl rfl) ?_
  refine SmG.v hF rfl rfl rfl (opV_move rfl rfl) ?_
  refine SmG.v hF rfl rfl rfl (opV_len rfl rfl (by simp (disch := omega) only [go_sem, Nat.reduceEqDiff, iteP, elemsL, rowE] <;> rfl)) ?_
  refine SmG.v hF rfl rfl rfl (opV_bin rfl rfl rfl (by first | exact rd_leqT _ _ _ _ _ (by omega) | exact rd_leqF _ _ _ _ _ (by omega) | exact rb_leq _ _ _ _ _ _ _)) ?_
  refine SmG.nil ?_
  refine nextS_normal ?_
  refine Sm.condF hF rfl ?_
  refine Sm.exit ?_
  simp only [nextS, blockS, reduceIte, reduceCtorEq]
  refine Sm.seq ?_
  refine Sm.seq ?_
  refine Sm.regionG hF rfl ?_
  refine SmG.v hF rfl rfl rfl (opV_move rfl rfl) ?_
  refine SmG.v hF rfl rfl rfl (opV_len rfl rfl (by simp (disch := omega) only [go_sem, Nat.reduceEqDiff, iteP, elemsL, rowE] <;> rfl)) ?_
  refine SmG.v hF rfl rfl rfl (opV_bin rfl rfl rfl (by first | exact rd_eqlT _ _ _ _ _ (by omega) | exact rd_eqlF _ _ _ _ _ (by omega) | exact rb_eql _ _ _ _ _ _ _)) ?_
  refine SmG.nil ?_
  refine nextS_normal ?_
  refine Sm.condF hF rfl ?_
  refine Sm.skip ?_
  refine nextS_normal ?_
  refine Sm.seq ?_
  refine Sm.regionG hF rfl ?_
  refine SmG.v hF rfl rfl rfl (opV_indexAddr rfl rfl rfl (by simp (disch := omega) only [go_sem, Nat.reduceEqDiff, iteP, elemsL, rowE] <;> rfl)) ?_
  refine SmG.v hF rfl rfl rfl (opV_load rfl rfl (by simp (disch := omega) only [go_sem, Nat.reduceEqDiff, iteP, elemsL, rowE] <;> rfl)) ?_
  refine SmG.v hF rfl rfl rfl (opV_conv rfl rfl (by first | exact convS_int rfl rfl (wrapI64 _ (by omega)) | (simp (disch := omega) only [go_sem, elemsL, rowE] <;> rfl))) ?_
  refine SmG.v hF rfl rfl rfl (opV_move rfl rfl) ?_
  refine SmG.v hF rfl rfl rfl (opV_len rfl rfl (by simp (disch := omega) only [go_sem, Nat.reduceEqDiff, iteP, elemsL, rowE] <;> rfl)) ?_
  refine SmG.v hF rfl rfl rfl (opV_bin rfl rfl rfl (rd_remN _ _ _ _ _ w0.toNat l.length (by omega))) ?_
  refine SmG.v hF rfl rfl rfl (opV_assign rfl rfl) ?_
  refine SmG.nil ?_
  refine nextS_normal ?_
  refine Sm.seq ?_
  refine Sm.regionG hF rfl ?_
  refine SmG.v hF rfl rfl rfl (opV_buildSlice rfl rfl (by simp (disch := omega) only [go_sem, Nat.reduceEqDiff, iteP, elemsL, rowE] <;> rfl)) ?_
  refine SmG.v hF rfl rfl rfl (opV_move rfl rfl) ?_
  refine SmG.v hF rfl rfl rfl (opV_move rfl rfl) ?_
  refine SmG.call hF rfl rfl (by kernel_rfl) rfl rfl rfl (c1) ?_
  refine SmG.v hF rfl rfl rfl (opV_field rfl rfl (by simp (disch := omega) only [go_sem, Nat.reduceEqDiff, iteP, elemsL, rowE] <;> rfl)) ?_
  -- stands at 95 of region 18: {"dst": 95, "op": "call", "a": [{"callee": ["builtin", "Callee.builtin Builtin.append"], "args": [["tmp", 90], ["tmp", 94]], "types": [32, 32]}], "ty"
  refine SmG.appendFresh hF elSum rfl rfl rfl rfl rfl rfl (Or.inl rfl) (by simp only [List.length_map]; omega) (by simp only [List.length_map]; omega) ?_
  generalize hii : w0.toNat % l.length = i at c1 hi hli
  refine SmG.v hF rfl rfl rfl (opV_assign rfl rfl) ?_
  refine SmG.nil ?_
  refine nextS_normal ?_
  refine Sm.seq ?_
  refine Sm.seq ?_
  refine Sm.regionG hF rfl ?_
  refine SmG.v hF rfl rfl rfl (opV_move rfl rfl) ?_
  refine SmG.v hF rfl rfl rfl (opV_len rfl rfl (by simp (disch := omega) only [go_sem, Nat.reduceEqDiff, iteP, elemsL, rowE] <;> rfl)) ?_
  refine SmG.v hF rfl rfl rfl (opV_bin rfl rfl rfl (by first | exact rd_gtrT _ _ _ _ _ (by omega) | exact rd_gtrF _ _ _ _ _ (by omega) | exact rb_gtr _ _ _ _ _ _ _)) ?_
  refine SmG.nil ?_
  refine nextS_normal ?_

  refine Sm.join (ι := {q : List (List UInt8) // Len32' q ∧ q.length = p.length}) (fun q => ⟨[(7, .d (.v (.bool true))), (8, .d (elemsL l)), (14, .d (.v (.int .i64 i))), (15, .sref 2 0 (q.1.map rowS).length)], [(2, dB 32 (q.1.map rowS))], 3⟩) ?_ ?_
  rotate_left
  · by_cases hp0 : 0 < p.length
    · rw [show decide ((0 : Int) < (p.length : Int)) = true from decide_eq_true (by omega)]
      generalize hkk : w1.toNat % p.length = k
      have hk : k < p.length := by rw [← hkk]; exact Nat.mod_lt _ hp0
      have hpk : p[k]? = some p[k] := by simp
      have h32 := hP _ (List.getElem_mem hk)
      have hj := mod_byte w2
      have hcast : ((w2.toNat : Int) % 32).toNat = w2.toNat % 32 := by omega
      have hst := fun h c hl => storeByte h 2 k (w2.toNat % 32) p c hl hk hj
      generalize w2.toNat % 32 = j at hj hcast hst
      have hsj : (p[k])[j]? = some ((p[k])[j]'(by omega)) := by simp
      generalize (p[k])[j]'(by omega) = c at hsj

      refine Sm.condT hF rfl ?_
      refine Sm.drawG hF (by kernel_rfl) rfl 18 (by kernel_rfl) (by kernel_rfl) ?_
      simp only [List.take_succ_cons, List.take_zero, List.take_nil]
      refine Head.v hF rfl rfl rfl (opV_move rfl rfl) ?_
      refine Head.v hF rfl rfl rfl (opV_indexAddr rfl rfl rfl (by simp (disch := omega) only [go_sem, Nat.reduceEqDiff, iteP, hpk, hsj, hcast, rowS, byteD, h32] <;> rfl)) ?_
      refine Head.v hF rfl rfl rfl (opV_load rfl rfl (by simp (disch := omega) only [go_sem, Nat.reduceEqDiff, iteP, hpk, hsj, hcast, rowS, byteD, h32] <;> rfl)) ?_
      refine Head.v hF rfl rfl rfl (opV_conv rfl rfl (by first | exact convS_int rfl rfl (wrapI64 _ (by omega)) | (simp (disch := omega) only [go_sem, hpk, hsj, hcast, rowS, byteD, h32] <;> rfl))) ?_
      refine Head.v hF rfl rfl rfl (opV_move rfl rfl) ?_
      refine Head.v hF rfl rfl rfl (opV_len rfl rfl (by simp (disch := omega) only [go_sem, Nat.reduceEqDiff, iteP, hpk, hsj, hcast, rowS, byteD, h32] <;> rfl)) ?_
      refine Head.v hF rfl rfl rfl (opV_bin rfl rfl rfl ((rd_remN _ _ _ _ _ _ _ (by omega)).trans (by rw [hkk]))) ?_
      refine Head.v hF rfl rfl rfl (opV_indexAddr rfl rfl rfl (by simp (disch := omega) only [go_sem, Nat.reduceEqDiff, iteP, hpk, hsj, hcast, rowS, byteD, h32] <;> rfl)) ?_
      refine Head.v hF rfl rfl rfl (opV_load rfl rfl (by simp (disch := omega) only [go_sem, Nat.reduceEqDiff, iteP, hpk, hsj, hcast, rowS, byteD, h32] <;> rfl)) ?_
      refine Head.v hF rfl rfl rfl (opV_bin rfl rfl rfl (rd_rem _ _ _ _ _ (by omega) (by omega))) ?_
      refine Head.v hF rfl rfl rfl (opV_indexAddr rfl rfl rfl (by simp (disch := omega) only [go_sem, Nat.reduceEqDiff, iteP, hpk, hsj, hcast, rowS, byteD, h32] <;> rfl)) ?_
      refine Head.v hF rfl rfl rfl (opV_indexAddr rfl rfl rfl (by simp (disch := omega) only [go_sem, Nat.reduceEqDiff, iteP, hpk, hsj, hcast, rowS, byteD, h32] <;> rfl)) ?_
      refine Head.v hF rfl rfl rfl (opV_load rfl rfl (by simp (disch := omega) only [go_sem, Nat.reduceEqDiff, iteP, hpk, hsj, hcast, rowS, byteD, h32] <;> rfl)) ?_
      refine Head.v hF rfl rfl rfl (opV_indexAddr rfl rfl rfl (by simp (disch := omega) only [go_sem, Nat.reduceEqDiff, iteP, hpk, hsj, hcast, rowS, byteD, h32] <;> rfl)) ?_
      refine Head.v hF rfl rfl rfl (opV_load rfl rfl (by simp (disch := omega) only [go_sem, Nat.reduceEqDiff, iteP, hpk, hsj, hcast, rowS, byteD, h32] <;> rfl)) ?_
      refine Head.v hF rfl rfl rfl (opV_bin rfl rfl rfl (rw_xor8 _ _ _ _ c w3)) ?_
      refine Head.v hF rfl rfl rfl (opV_indexAddr rfl rfl rfl (by simp (disch := omega) only [go_sem, Nat.reduceEqDiff, iteP, hpk, hsj, hcast, rowS, byteD, h32] <;> rfl)) ?_
      refine Head.v hF rfl rfl rfl (opV_indexAddr rfl rfl rfl (by simp (disch := omega) only [go_sem, Nat.reduceEqDiff, iteP, hpk, hsj, hcast, rowS, byteD, h32] <;> rfl)) ?_
      refine Head.last ⟨rfl, ?_⟩
      simp only [List.drop_succ_cons, List.drop_zero, List.drop_nil, List.nil_append, List.cons_append]
      refine SmG.store hF rfl rfl rfl rfl rfl (hst _ _ rfl) ?_
      refine SmG.nil ?_
      refine nextS_normal ?_
      exact ⟨⟨p.set k ((p[k]).set j (c ^^^ w3)), len32_set hP k (by simp [h32]), by simp⟩, by exact St.le_of (by first | (simp [leE, look, constD] <;> omega) | (simp [leE, look, constD, true_and] <;> omega)) (by simp only [leH, look, rep, reduceIte, Nat.reduceEqDiff, List.set_cons_zero, List.set_cons_succ, true_and, and_self, and_true, and_false, false_and, if_true, if_false] <;> (repeat' first | rfl | constructor)) (by first | exact Nat.le_refl _ | (dsimp only; omega))⟩
    · rw [show decide ((0 : Int) < (p.length : Int)) = false from decide_eq_false (by omega)]
      refine Sm.condF hF rfl ?_
      refine Sm.skip ?_
      refine nextS_normal ?_
      exact ⟨⟨p, hP, rfl⟩, by exact St.le_of (by first | (simp [leE, look, constD] <;> omega) | (simp [leE, look, constD, true_and] <;> omega)) (by simp only [leH, look, rep, reduceIte, Nat.reduceEqDiff, List.set_cons_zero, List.set_cons_succ, true_and, and_self, and_true, and_false, false_and, if_true, if_false] <;> (repeat' first | rfl | constructor)) (by first | exact Nat.le_refl _ | (dsimp only; omega))⟩
  rintro ⟨q, hq, hql⟩
  simp only
  refine Sm.freeze (l := 2) _ rfl ?_
  simp only [Pk.v, frzE, frzV, dropH, reduceIte, Nat.reduceAdd, Nat.zero_add, List.length_map, List.length_append, Nat.le_refl, true_and, and_self, if_true, Nat.reduceEqDiff, true_and]
  have k1 := check_D R e l.length i q hR hbl hq (by omega) (by omega)
  have k2 := refCheck_D R e l.length i q hR hbl hq (by omega) (by omega) (by omega) (by omega)
  have k3 := check_D R e ((l.length : Int) + 1) i q hR hbl hq (by omega) (by omega)
  have k4 := refCheck_D R e ((l.length : Int) + 1) i q hR hbl hq (by omega) (by omega) (by omega) (by omega)

  refine Sm.seq ?_
  refine Sm.drawG hF (by kernel_rfl) rfl 54 (by kernel_rfl) (by kernel_rfl) ?_
  simp only [List.take_succ_cons, List.take_zero, List.take_nil]
  refine Head.v hF rfl rfl rfl (opV_move rfl rfl) ?_
  refine Head.v hF rfl rfl rfl (opV_move rfl rfl) ?_
  first | refine Head.v hF rfl rfl rfl (opV_move rfl rfl) ?_ | refine Head.p hF rfl rfl rfl ?_
  first | refine Head.c hF rfl rfl (by kernel_rfl) rfl rfl rfl (r2) ?_ | refine Head.p hF rfl rfl rfl ?_
  first | refine Head.v hF rfl rfl rfl (opV_move rfl rfl) ?_ | refine Head.p hF rfl rfl rfl ?_
  first | refine Head.v hF rfl rfl rfl (opV_len rfl rfl (by simp (disch := omega) only [go_sem, Nat.reduceEqDiff, iteP, elemsL, bytesL, sumsL, rowE, hli] <;> rfl)) ?_ | refine Head.p hF rfl rfl rfl ?_
  first | refine Head.v hF rfl rfl rfl (opV_move rfl rfl) ?_ | refine Head.p hF rfl rfl rfl ?_
  first | refine Head.v hF rfl rfl rfl (opV_move rfl rfl) ?_ | refine Head.p hF rfl rfl rfl ?_
  first | refine Head.v hF rfl rfl rfl (opV_move rfl rfl) ?_ | refine Head.p hF rfl rfl rfl ?_
  first | refine Head.v hF rfl rfl rfl (opV_indexAddr rfl rfl rfl (by simp (disch := omega) only [go_sem, Nat.reduceEqDiff, iteP, elemsL, bytesL, sumsL, rowE, hli] <;> rfl)) ?_ | refine Head.p hF rfl rfl rfl ?_
  first | refine Head.v hF rfl rfl rfl (opV_load rfl rfl (by simp (disch := omega) only [go_sem, Nat.reduceEqDiff, iteP, elemsL, bytesL, sumsL, rowE, hli] <;> rfl)) ?_ | refine Head.p hF rfl rfl rfl ?_
  first | refine Head.v hF rfl rfl rfl (opV_move rfl rfl) ?_ | refine Head.p hF rfl rfl rfl ?_
  first | refine Head.c hF rfl rfl (by kernel_rfl) rfl rfl rfl (k1) ?_ | refine Head.p hF rfl rfl rfl ?_
  first | refine Head.v hF rfl rfl rfl (opV_move rfl rfl) ?_ | refine Head.p hF rfl rfl rfl ?_
  first | refine Head.c hF rfl rfl (by kernel_rfl) rfl rfl rfl (r2) ?_ | refine Head.p hF rfl rfl rfl ?_
  first | refine Head.v hF rfl rfl rfl (opV_move rfl rfl) ?_ | refine Head.p hF rfl rfl rfl ?_
  first | refine Head.v hF rfl rfl rfl (opV_len rfl rfl (by simp (disch := omega) only [go_sem, Nat.reduceEqDiff, iteP, elemsL, bytesL, sumsL, rowE, hli] <;> rfl)) ?_ | refine Head.p hF rfl rfl rfl ?_
  first | refine Head.v hF rfl rfl rfl (opV_move rfl rfl) ?_ | refine Head.p hF rfl rfl rfl ?_
  first | refine Head.v hF rfl rfl rfl (opV_move rfl rfl) ?_ | refine Head.p hF rfl rfl rfl ?_
  first | refine Head.v hF rfl rfl rfl (opV_move rfl rfl) ?_ | refine Head.p hF rfl rfl rfl ?_
  first | refine Head.v hF rfl rfl rfl (opV_indexAddr rfl rfl rfl (by simp (disch := omega) only [go_sem, Nat.reduceEqDiff, iteP, elemsL, bytesL, sumsL, rowE, hli] <;> rfl)) ?_ | refine Head.p hF rfl rfl rfl ?_
  first | refine Head.v hF rfl rfl rfl (opV_load rfl rfl (by simp (disch := omega) only [go_sem, Nat.reduceEqDiff, iteP, elemsL, bytesL, sumsL, rowE, hli] <;> rfl)) ?_ | refine Head.p hF rfl rfl rfl ?_
  first | refine Head.v hF rfl rfl rfl (opV_move rfl rfl) ?_ | refine Head.p hF rfl rfl rfl ?_
  first | refine Head.c hF rfl rfl (by kernel_rfl) rfl rfl rfl (k2) ?_ | refine Head.p hF rfl rfl rfl ?_
  refine Head.v hF rfl rfl rfl (opV_bin rfl rfl rfl (rd_beq _ _ _ _ Tryd.underlying4 (beq_self_eq_true _))) ?_
  first | refine Head.v hF rfl rfl rfl (opV_pickT rfl rfl rfl) ?_ | refine Head.v hF rfl rfl rfl (opV_pickF rfl rfl rfl) ?_
  refine Head.v hF rfl rfl rfl (opV_move rfl rfl) ?_
  first | refine Head.v hF rfl rfl rfl (opV_move rfl rfl) ?_ | refine Head.p hF rfl rfl rfl ?_
  first | refine Head.c hF rfl rfl (by kernel_rfl) rfl rfl rfl (r2) ?_ | refine Head.p hF rfl rfl rfl ?_
  first | refine Head.v hF rfl rfl rfl (opV_move rfl rfl) ?_ | refine Head.p hF rfl rfl rfl ?_
  first | refine Head.v hF rfl rfl rfl (opV_len rfl rfl (by simp (disch := omega) only [go_sem, Nat.reduceEqDiff, iteP, elemsL, bytesL, sumsL, rowE, hli] <;> rfl)) ?_ | refine Head.p hF rfl rfl rfl ?_
  first | refine Head.v hF rfl rfl rfl (opV_bin rfl rfl rfl (by first | exact rd_add _ _ _ _ _ (wrapI64 _ (by omega)) | exact rb_add _ _ _ _ _ _ _)) ?_ | refine Head.p hF rfl rfl rfl ?_
  first | refine Head.v hF rfl rfl rfl (opV_move rfl rfl) ?_ | refine Head.p hF rfl rfl rfl ?_
  first | refine Head.v hF rfl rfl rfl (opV_move rfl rfl) ?_ | refine Head.p hF rfl rfl rfl ?_
  first | refine Head.v hF rfl rfl rfl (opV_move rfl rfl) ?_ | refine Head.p hF rfl rfl rfl ?_
  first | refine Head.v hF rfl rfl rfl (opV_indexAddr rfl rfl rfl (by simp (disch := omega) only [go_sem, Nat.reduceEqDiff, iteP, elemsL, bytesL, sumsL, rowE, hli] <;> rfl)) ?_ | refine Head.p hF rfl rfl rfl ?_
  first | refine Head.v hF rfl rfl rfl (opV_load rfl rfl (by simp (disch := omega) only [go_sem, Nat.reduceEqDiff, iteP, elemsL, bytesL, sumsL, rowE, hli] <;> rfl)) ?_ | refine Head.p hF rfl rfl rfl ?_
  first | refine Head.v hF rfl rfl rfl (opV_move rfl rfl) ?_ | refine Head.p hF rfl rfl rfl ?_
  first | refine Head.c hF rfl rfl (by kernel_rfl) rfl rfl rfl (k3) ?_ | refine Head.p hF rfl rfl rfl ?_
  first | refine Head.v hF rfl rfl rfl (opV_move rfl rfl) ?_ | refine Head.p hF rfl rfl rfl ?_
  first | refine Head.c hF rfl rfl (by kernel_rfl) rfl rfl rfl (r2) ?_ | refine Head.p hF rfl rfl rfl ?_
  first | refine Head.v hF rfl rfl rfl (opV_move rfl rfl) ?_ | refine Head.p hF rfl rfl rfl ?_
  first | refine Head.v hF rfl rfl rfl (opV_len rfl rfl (by simp (disch := omega) only [go_sem, Nat.reduceEqDiff, iteP, elemsL, bytesL, sumsL, rowE, hli] <;> rfl)) ?_ | refine Head.p hF rfl rfl rfl ?_
  first | refine Head.v hF rfl rfl rfl (opV_bin rfl rfl rfl (by first | exact rd_add _ _ _ _ _ (wrapI64 _ (by omega)) | exact rb_add _ _ _ _ _ _ _)) ?_ | refine Head.p hF rfl rfl rfl ?_
  first | refine Head.v hF rfl rfl rfl (opV_move rfl rfl) ?_ | refine Head.p hF rfl rfl rfl ?_
  first | refine Head.v hF rfl rfl rfl (opV_move rfl rfl) ?_ | refine Head.p hF rfl rfl rfl ?_
  first | refine Head.v hF rfl rfl rfl (opV_move rfl rfl) ?_ | refine Head.p hF rfl rfl rfl ?_
  first | refine Head.v hF rfl rfl rfl (opV_indexAddr rfl rfl rfl (by simp (disch := omega) only [go_sem, Nat.reduceEqDiff, iteP, elemsL, bytesL, sumsL, rowE, hli] <;> rfl)) ?_ | refine Head.p hF rfl rfl rfl ?_
  first | refine Head.v hF rfl rfl rfl (opV_load rfl rfl (by simp (disch := omega) only [go_sem, Nat.reduceEqDiff, iteP, elemsL, bytesL, sumsL, rowE, hli] <;> rfl)) ?_ | refine Head.p hF rfl rfl rfl ?_
  first | refine Head.v hF rfl rfl rfl (opV_move rfl rfl) ?_ | refine Head.p hF rfl rfl rfl ?_
  first | refine Head.c hF rfl rfl (by kernel_rfl) rfl rfl rfl (k4) ?_ | refine Head.p hF rfl rfl rfl ?_
  refine Head.v hF rfl rfl rfl (opV_bin rfl rfl rfl (rd_beq _ _ _ _ Tryd.underlying4 (beq_self_eq_true _))) ?_
  first | refine Head.v hF rfl rfl rfl (opV_pickT rfl rfl rfl) ?_ | refine Head.v hF rfl rfl rfl (opV_pickF rfl rfl rfl) ?_
  refine Head.v hF rfl rfl rfl (opV_assign rfl rfl) ?_
  refine Head.last ⟨rfl, ?_⟩
  simp only [List.drop_succ_cons, List.drop_zero, List.drop_nil, List.nil_append, List.cons_append]
  refine SmG.nil ?_
  refine nextS_normal ?_
  refine Sm.ret ?_
  refine ⟨_, rfl, ?_⟩; dsimp only
  exact D.le.refl _
end Go.Proofs.YtmindblfbijaaaaDoor
namespace Go.Proofs.YtmindblfbijaaaaDoor
open Go.RowKit Go.ChangeShapes Go.WideShapes
/-- All that memory holds. -/
def CellsOf (w : World) : Facts := fun b o u => w.cell? ⟨b, o, none⟩ = some u
theorem known_cells (w : World) : Known (CellsOf w) w := fun _ _ _ h => h
/-- The cells of a type, as data. -/
def TyD (P : Program) : Nat → TypeId → List D → Prop
  | 0, _, _ => False
  | n + 1, t, ds =>
    match P.underlying t with
    | some .bool => ∃ b, ds = [.v (.bool b)]
    | some (.int k) => ∃ z, ds = [.v (.int k z)] ∧ k.min ≤ z ∧ z ≤ k.max
    | some .string => ∃ s : ByteArray, ds = [.v (.string s)] ∧ s.size ≤ 9223372036854775807
    | some (.slice e) => ∃ xs : List (List D), ds = [.list (P.cellsOf e) xs false] ∧ xs.length ≤ 9223372036854775807 ∧ ∀ x ∈ xs, TyD P n e x
    | some (.struct fs) => ∃ parts : List (List D), parts.length = fs.size ∧ ds = parts.flatten ∧ ∀ (i : Nat) (f : Field) (p : List D), fs[i]? = some f → parts[i]? = some p → TyD P n f.type p
    | some (.array m e) => ∃ parts : List (List D), parts.length = m ∧ ds = parts.flatten ∧ ∀ p ∈ parts, TyD P n e p
    | _ => False
/-- Fields lie one behind the other. -/
def contB (P : Program) : Nat → List Field → Bool
  | _, [] => true
  | off, f :: r => f.offset == off && contB P (off + P.cellsOf f.type) r
def sizesOf (P : Program) : List Field → Nat
  | [] => 0
  | f :: r => P.cellsOf f.type + sizesOf P r
/-- A type that is read so deep. -/
def fineT (P : Program) : Nat → TypeId → Bool
  | 0, _ => false
  | n + 1, t =>
    match P.underlying t with
    | some .bool | some (.int _) | some .string => P.cellsOf t == 1
    | some (.slice e) => P.cellsOf t == 1 && decide (0 < P.cellsOf e) && fineT P n e
    | some (.struct fs) => contB P 0 fs.toList && sizesOf P fs.toList == P.cellsOf t && fs.toList.all fun f => fineT P n f.type
    | some (.array m e) => m * P.cellsOf e == P.cellsOf t && fineT P n e
    | _ => false
section
variable {H : Type} {enc : TypeId × Value → H} {P : Program} {w : World}
theorem struct_rep {n : Nat} : ∀ (l : List Field) (off : Nat) (cs : List Value), contB P off l = true → (∀ (i : Nat) (f : Field), l[i]? = some f → ∃ ds, Rp (CellsOf w) (.vals ds ((cs.drop f.offset).take (P.cellsOf f.type))) ∧ TyD P n f.type ds) →
    ∃ parts : List (List D), parts.length = l.length ∧ (∀ (i : Nat) (f : Field) (p : List D), l[i]? = some f → parts[i]? = some p → TyD P n f.type p) ∧ Rp (CellsOf w) (.vals parts.flatten ((cs.drop off).take (sizesOf P l))) := by
  intro l
  induction l with
  | nil => intro off cs _ _; exact ⟨[], rfl, by simp, by simpa [sizesOf] using .vnil⟩
  | cons f l ih =>
    intro off cs hc h
    simp only [contB, Bool.and_eq_true, beq_iff_eq] at hc
    obtain ⟨ho, hc⟩ := hc
    obtain ⟨ds, h1, h2⟩ := h 0 f rfl
    obtain ⟨parts, k1, k2, k3⟩ := ih (off + P.cellsOf f.type) cs hc fun i g hg => h (i + 1) g (by simpa using hg)
    refine ⟨ds :: parts, by simp [k1], fun i g p hg hp => ?_, ?_⟩
    · cases i with
      | zero => simp at hg hp; subst hg; subst hp; exact h2
      | succ i => exact k2 i g p (by simpa using hg) (by simpa using hp)
    · rw [ho] at h1
      have := vals_append h1 k3
      rw [List.flatten_cons, sizesOf, List.take_add, List.drop_drop]
      exact this
theorem array_rep {n e : Nat} : ∀ (m i0 : Nat) (cs : List Value), (∀ i, i < m → ∃ ds, Rp (CellsOf w) (.vals ds ((cs.drop ((i0 + i) * P.cellsOf e)).take (P.cellsOf e))) ∧ TyD P n e ds) →
    ∃ parts : List (List D), parts.length = m ∧ (∀ p ∈ parts, TyD P n e p) ∧ Rp (CellsOf w) (.vals parts.flatten ((cs.drop (i0 * P.cellsOf e)).take (m * P.cellsOf e))) := by
  intro m
  induction m with
  | zero => intro i0 cs _; exact ⟨[], rfl, by simp, by simpa using .vnil⟩
  | succ m ih =>
    intro i0 cs h
    obtain ⟨ds, h1, h2⟩ := h 0 (by omega)
    obtain ⟨parts, k1, k2, k3⟩ := ih (i0 + 1) cs fun i hi => by
      have := h (i + 1) (by omega)
      rw [show i0 + 1 + i = i0 + (i + 1) by omega]; exact this
    refine ⟨ds :: parts, by simp [k1], fun p hp => (List.mem_cons.1 hp).elim (fun e => e ▸ h2) (k2 p), ?_⟩
    have := vals_append h1 k3
    rw [List.flatten_cons, Nat.succ_mul, Nat.add_comm (m * _), List.take_add, List.drop_drop, show i0 * P.cellsOf e + P.cellsOf e = (i0 + 1) * P.cellsOf e by rw [Nat.succ_mul]]
    simpa using this
theorem trod_rep : ∀ (n : Nat) (t : TypeId) (fuel : Nat) (cs : List Value) (x : DataW H × List MemPlace), fineT P n t = true → DataW.trod enc P w 0 (fun _ => true) true fuel t cs = some x →
    cs.length = P.cellsOf t ∧ ∃ ds, Rp (CellsOf w) (.vals ds cs) ∧ TyD P n t ds := by
  intro n
  induction n with
  | zero => intro t fuel cs x hf; simp [fineT] at hf
  | succ n ih =>
    intro t fuel cs x hf h
    simp only [fineT] at hf
    split at hf
    · rename_i ht
      obtain ⟨b, rfl, _⟩ := DataW.trod_bool ht h
      refine ⟨(by simpa using (beq_iff_eq.1 hf).symm), [.v (.bool b)], .vcons _ _ _ _ rfl (.v _) .vnil, ?_⟩
      simp only [TyD, ht]; exact ⟨b, rfl⟩
    · rename_i k ht
      obtain ⟨z, rfl, _, hw⟩ := DataW.trod_int ht h
      simp only [Lit.wf, Bool.and_eq_true, decide_eq_true_eq] at hw
      refine ⟨(by simpa using (beq_iff_eq.1 hf).symm), [.v (.int k z)], .vcons _ _ _ _ rfl (.v _) .vnil, ?_⟩
      simp only [TyD, ht]; exact ⟨z, rfl, hw.1, hw.2⟩
    · rename_i ht
      obtain ⟨s, rfl, _, hs⟩ := DataW.trod_string ht h
      refine ⟨(by simpa using (beq_iff_eq.1 hf).symm), [.v (.string s)], .vcons _ _ _ _ rfl (.v _) .vnil, ?_⟩
      simp only [TyD, ht]; exact ⟨s, rfl, by unfold maxLen at hs; omega⟩
    · rename_i e ht
      simp only [Bool.and_eq_true, decide_eq_true_eq, beq_iff_eq] at hf
      obtain ⟨⟨hf1, hpos⟩, hf⟩ := hf
      rcases DataW.trod_slice ht h with ⟨rfl, _⟩ | ⟨a, len, cap, elems, rest, m, _, rfl, _, _, hlc, hcm, hel, hget, hsp, _⟩
      · refine ⟨by simpa using hf1.symm, [.list (P.cellsOf e) [] false], .vcons _ _ _ _ rfl (.nil _ _ _ _ ⟨Nat.le_refl _, fun _ => rfl, by omega, fun _ => rfl, fun _ h => by cases h⟩) .vnil, ?_⟩
        simp only [TyD, ht]; exact ⟨[], rfl, by simp, by simp⟩
      · have hmax : cap ≤ 9223372036854775807 := by unfold maxLen at hcm; omega
        obtain ⟨hrl, hrest⟩ := hsp rfl
        have one : ∀ i, i < cap → ∃ cs', w.cells? 0 (a.add (i * P.cellsOf e)) (P.cellsOf e) = some cs' ∧ ∃ y, DataW.trod enc P w 0 (fun _ => true) true m e cs' = some y := by
          intro i hi
          rcases Nat.lt_or_ge i len with hil | hil
          · have := hget i hil
            rw [List.getElem?_eq_getElem (by omega)] at this
            obtain ⟨cs', h1, h2⟩ := Option.bind_eq_some_iff.1 this
            exact ⟨cs', h1, _, h2⟩
          · have := hrest (i - len) (by omega)
            rw [show len + (i - len) = i by omega, List.getElem?_eq_getElem (by omega)] at this
            obtain ⟨cs', h1, h2⟩ := Option.bind_eq_some_iff.1 this
            exact ⟨cs', h1, _, h2⟩
        have hspot : 0 < cap → a.spot = none := by
          intro hc
          obtain ⟨cs', h1, y, h2⟩ := one 0 hc
          have hlen := (World.cells?_some h1)
          have h3 := hlen.2.2 0 hpos
          rw [List.getElem?_eq_getElem (by rw [hlen.2.1]; exact hpos)] at h3
          have := World.cell?_spot h3
          simpa [Addr.add] using this
        have rows : ∃ xs : List (List D), xs.length = len ∧ (∀ x ∈ xs, TyD P n e x) ∧ (0 < cap → Rp (CellsOf w) (.rows xs a.block a.off (P.cellsOf e))) := by
          have hch : ∀ i, i < len → ∃ x : List D, x.length = P.cellsOf e ∧ TyD P n e x ∧ Rp (CellsOf w) (.mem x a.block (a.off + i * P.cellsOf e)) := by
            intro i hi
            obtain ⟨cs', h1, y, h2⟩ := one i (by omega)
            obtain ⟨hl, ds, k1, k2⟩ := ih e m cs' y hf h2
            refine ⟨ds, by rw [← vals_length k1, hl], k2, mem_of_vals k1 fun j u hj => ?_⟩
            obtain ⟨_, g1, g2⟩ := World.cells?_some h1
            have hjl : j < P.cellsOf e := by rw [← hl]; exact (List.getElem?_eq_some_iff.1 hj).1
            have g3 := g2 j hjl
            rw [hj] at g3
            have hsp0 := hspot (by omega)
            obtain ⟨b, o, s⟩ := a
            simp only at hsp0
            subst hsp0
            rw [addr_add, addr_add] at g3
            exact g3
          obtain ⟨f, hfx⟩ := Deep.choose_lt hch
          refine ⟨(List.range len).map f, by simp, fun x hx => ?_, fun _ => rows_of fun i x hi => ?_⟩
          · obtain ⟨i, hi, rfl⟩ := List.mem_map.1 hx
            exact (hfx i (by simpa using hi)).2.1
          · have hil : i < len := by have := (List.getElem?_eq_some_iff.1 hi).1; simpa using this
            simp [hil] at hi
            subst hi
            exact ⟨(hfx i hil).1, (hfx i hil).2.2⟩
        obtain ⟨xs, x1, x2, x3⟩ := rows
        refine ⟨by simpa using hf1.symm, [.list (P.cellsOf e) xs false], .vcons _ _ _ _ rfl ?_ .vnil, ?_⟩
        · by_cases hx : xs = []
          · subst hx
            simp only [List.length_nil] at x1
            subst x1
            exact .nil _ _ _ _ ⟨Nat.zero_le _, by simp, hmax, fun h => (by cases h), fun x hx hc => by cases hx; exact hspot hc⟩
          · have hl : 0 < xs.length := List.length_pos_iff.2 hx
            have hsp0 := hspot (by omega)
            obtain ⟨b, o, s⟩ := a
            simp only at hsp0
            subst hsp0
            rw [← x1]
            exact .list _ _ _ _ _ _ hx ⟨by omega, by simp, hmax, fun h => (by cases h), fun x hx _ => by cases hx; rfl⟩ (x3 (by omega))
        · simp only [TyD, ht]; exact ⟨xs, rfl, by omega, x2⟩
    · rename_i fs ht
      simp only [Bool.and_eq_true, beq_iff_eq] at hf
      obtain ⟨⟨hf1, hf2⟩, hf3⟩ := hf
      obtain ⟨xs, m, _, _, hl, hxl, hget⟩ := DataW.trod_struct ht h
      obtain ⟨parts, k1, k2, k3⟩ := struct_rep (P := P) (w := w) (n := n) fs.toList 0 cs hf1 (fun i f hi => by
        have hi' : fs[i]? = some f := by simpa using hi
        have hil : i < xs.length := by rw [hxl]; exact (Array.getElem?_eq_some_iff.1 hi').1
        have := hget i f hi'
        rw [List.getElem?_eq_getElem hil] at this
        have hm : f ∈ fs.toList := List.mem_of_getElem? hi
        exact (ih f.type m _ _ (List.all_eq_true.1 hf3 f hm) this).2)
      refine ⟨hl, parts.flatten, ?_, ?_⟩
      · rw [hf2, ← hl] at k3
        simpa using k3
      · simp only [TyD, ht]
        exact ⟨parts, by simpa using k1, rfl, fun i f p hi hp => k2 i f p (by simpa using hi) hp⟩
    · rename_i m e ht
      simp only [Bool.and_eq_true, beq_iff_eq] at hf
      obtain ⟨hf1, hf2⟩ := hf
      obtain ⟨xs, q, _, _, hl, hxl, hget⟩ := DataW.trod_array ht h
      obtain ⟨parts, k1, k2, k3⟩ := array_rep (P := P) (w := w) (n := n) (e := e) m 0 cs (fun i hi => by
        have := hget i hi
        rw [List.getElem?_eq_getElem (by omega)] at this
        rw [Nat.zero_add]
        exact (ih e q _ _ hf2 this).2)
      refine ⟨hl, parts.flatten, ?_, ?_⟩
      · rw [hf1, ← hl] at k3
        simpa using k3
      · simp only [TyD, ht]
        exact ⟨parts, k1, rfl, k2⟩
    · cases hf
/-- An argument as one piece of data. -/
def ArgD (P : Program) (n : Nat) (t : TypeId) (d : D) : Prop :=
  match aggT P t with
  | some true => ∃ ds, d = .agg (P.cellsOf t) ds ∧ ds.length = P.cellsOf t ∧ TyD P n t ds
  | some false => TyD P n t [d]
  | none => False
theorem arg_rep {n : Nat} {t : TypeId} {v : Value} {x : DataW H} {p : List MemPlace} {base : Nat} (hf : fineT P n t = true) (hv : Value.okWide P w .any base t v) (h : DataW.Trod enc P w 0 (fun _ => true) true t v x p) : ∃ d, Rep (CellsOf w) d v ∧ ArgD P n t d := by
  obtain ⟨fuel, h⟩ := h
  obtain ⟨hl, ds, h1, h2⟩ := trod_rep n t fuel _ _ hf h
  cases n with
  | zero => simp [fineT] at hf
  | succ n =>
  have one : aggT P t = some false → P.cellsOf t = 1 → (∀ cs, v ≠ .agg cs) → ∃ d, Rep (CellsOf w) d v ∧ ArgD P (n + 1) t d := by
    intro ha hc hne
    have hcv : v.cells.toList = [v] := by cases v <;> first | rfl | exact (hne _ rfl).elim
    rw [hcv] at h1
    cases h1 with
    | vcons d _ ds' _ g1 g2 g3 =>
      cases g3
      exact ⟨d, g2, by simpa only [ArgD, ha] using h2⟩
  have all : aggT P t = some true → (∃ cs, v = .agg cs) → ∃ d, Rep (CellsOf w) d v ∧ ArgD P (n + 1) t d := by
    rintro ha ⟨cs, rfl⟩
    have hc : (Value.agg cs).cells.toList = cs.toList := rfl
    rw [hc] at h1 hl
    have hdl : ds.length = P.cellsOf t := by rw [← vals_length h1, hl]
    exact ⟨.agg (P.cellsOf t) ds, by have := Rp.agg (P.cellsOf t) ds cs.toList hdl h1; simpa using this, by simp only [ArgD, ha]; exact ⟨ds, rfl, hdl, h2⟩⟩
  have h0 := hf
  simp only [fineT] at hf
  have hv' := hv
  split at hf
  · rename_i ht
    refine one (by simp [aggT, ht]) (beq_iff_eq.1 hf) fun cs e => ?_
    subst e; simp [Value.okWide, ht, Cell.okWide, Cell.ok] at hv
  · rename_i k ht
    refine one (by simp [aggT, ht]) (beq_iff_eq.1 hf) fun cs e => ?_
    subst e; simp [Value.okWide, ht, Cell.okWide, Cell.ok] at hv
  · rename_i ht
    refine one (by simp [aggT, ht]) (beq_iff_eq.1 hf) fun cs e => ?_
    subst e; simp [Value.okWide, ht, Cell.okWide, Cell.ok] at hv
  · rename_i e ht
    simp only [Bool.and_eq_true, beq_iff_eq] at hf
    refine one (by simp [aggT, ht]) hf.1.1 fun cs e => ?_
    subst e; simp [Value.okWide, ht, Cell.okWide, Cell.ok] at hv
  · rename_i fs ht
    refine all (by simp [aggT, ht]) ?_
    simp only [Value.okWide, ht] at hv
    obtain ⟨cs, e, _⟩ := hv
    exact ⟨cs, e⟩
  · rename_i m e ht
    refine all (by simp [aggT, ht]) ?_
    simp only [Value.okWide, ht] at hv
    obtain ⟨cs, e, _⟩ := hv
    exact ⟨cs, e⟩
  · cases hf
def ArgsD (P : Program) (n : Nat) : List TypeId → List D → Prop
  | [], [] => True
  | t :: ts, d :: ds => ArgD P n t d ∧ ArgsD P n ts ds
  | _, _ => False
theorem args_rep {n base : Nat} : ∀ {ts : List TypeId} {vs : List Value} {xs : List (DataW H)} {p : List MemPlace}, (ts.all (fineT P n)) = true → (∀ (j : Nat) t v, ts[j]? = some t → vs[j]? = some v → Value.okWide P w .any base t v) → DataW.TrodAll enc P w 0 (fun _ => true) true ts vs xs p →
    xs.length = ts.length ∧ ∃ ds, Rp (CellsOf w) (.outs ds vs) ∧ ArgsD P n ts ds := by
  intro ts
  induction ts with
  | nil =>
    intro vs xs p _ _ h
    cases vs with
    | nil => cases xs with
      | nil => exact ⟨rfl, [], .onil, trivial⟩
      | cons => exact h.elim
    | cons => cases xs <;> exact h.elim
  | cons t ts ih =>
    intro vs xs p hf hv h
    cases vs with
    | nil => cases xs <;> exact h.elim
    | cons v vs =>
      cases xs with
      | nil => exact h.elim
      | cons x xs =>
        obtain ⟨p', q, h1, h2, _⟩ := h
        simp only [List.all_cons, Bool.and_eq_true] at hf
        obtain ⟨hl, ds, k1, k2⟩ := ih hf.2 (fun j t v ht hv' => hv (j + 1) t v (by simpa using ht) (by simpa using hv')) h2
        obtain ⟨d, g1, g2⟩ := arg_rep hf.1 (hv 0 t v rfl rfl) h1
        exact ⟨by simp [hl], d :: ds, .ocons _ _ _ _ g1 k1, g2, k2⟩
theorem args_stay {W' : World} (hl : laidOutB P = true) : ∀ {ts : List TypeId} {vs : List Value} {xs : List (DataW H)} {p : List MemPlace}, (ts.all fun t => P.readableRec t && decide (t < P.types.size)) = true → DataW.TrodAll enc P w 0 (fun _ => true) true ts vs xs p → Below w.heap.size w W' → (∀ x ∈ p, x.block < w.heap.size) →
    DataW.TrodAll enc P W' 0 (fun b => decide (b < w.heap.size)) true ts vs xs p := by
  intro ts
  induction ts with
  | nil =>
    intro vs xs p _ h _ _
    cases vs with
    | nil => cases xs with
      | nil => exact h
      | cons => exact h.elim
    | cons => cases xs <;> exact h.elim
  | cons t ts ih =>
    intro vs xs p hf h hb hp
    cases vs with
    | nil => cases xs <;> exact h.elim
    | cons v vs =>
      cases xs with
      | nil => exact h.elim
      | cons x xs =>
        obtain ⟨p', q, h1, h2, rfl⟩ := h
        simp only [List.all_cons, Bool.and_eq_true, decide_eq_true_eq] at hf
        exact ⟨p', q, Below.trod hl hf.1.1 hf.1.2 h1 hb (fun x hx => hp x (by simp [hx])), ih hf.2 h2 hb (fun x hx => hp x (by simp [hx])), rfl⟩
end
end Go.Proofs.YtmindblfbijaaaaDoor
namespace Go.Proofs.YtmindblfbijaaaaDoor
open Go.ChangeShapes Go.WideShapes Go.ChangeAt Go.RowKit
theorem own : ownKnob Tryd.prog.godebug = none := by kernel_rfl
theorem laidOut : laidOutB Tryd.prog = true := by kernel_rfl
/-- An array of numbers that reads as literals has them in its cells. -/
theorem cells_lits {H : Type} {enc : TypeId × Value → H} {P : Program} {w : World} {base : Nat} {sp : Nat → Bool} {held : Bool} {fuel t e n : Nat} {k : IntKind} {cs : List Value} {ns : List Int} {q : List MemPlace}
    (ht : P.underlying t = some (.array n e)) (he : P.underlying e = some (.int k)) (ce : P.cellsOf e = 1) (ct : P.cellsOf t = n)
    (hd : DataW.trod enc P w base sp held fuel t cs = some (.agg (ns.map fun x => .lit (.int k x)), q)) : cs = ns.map (.int k) := by
  obtain ⟨xs, m, _, ex, hlen, hl, hel⟩ := DataW.trod_array ht hd
  have e1 := DataW.agg.inj (Prod.mk.inj ex).1
  rw [ct] at hlen
  have hnl : ns.length = n := by have := congrArg List.length e1; simpa [hl] using this
  apply List.ext_getElem?
  intro i
  rcases Nat.lt_or_ge i n with hi | hi
  · have h1 := hel i hi
    rw [ce, Nat.mul_one] at h1
    have hxi : xs[i]? = some xs[i] := by simp [hl, hi]
    rw [hxi] at h1
    obtain ⟨z, hz, hx, _⟩ := DataW.trod_int he h1
    have h2 : (ns.map fun x => (DataW.lit (.int k x) : DataW H))[i]? = some (.lit (.int k z)) := by
      rw [e1, List.getElem?_map, hxi, hx]; rfl
    rw [List.getElem?_map] at h2
    cases hn : ns[i]? with
    | none => rw [hn] at h2; cases h2
    | some y =>
      rw [hn] at h2
      simp at h2
      subst h2
      have h3 : cs[i]? = some (.int k y) := by
        have := congrArg (·[0]?) hz
        simp at this
        exact this
      rw [h3, List.getElem?_map, hn]; rfl
  · rw [List.getElem?_eq_none (by omega), List.getElem?_eq_none (by simp [hnl]; omega)]
def laid2 : List (String × DataW Unit) := [("skewer/hash.begin", Rows.laid_skewer_hash_begin), ("skewer/hash.keys", Rows.laid_skewer_hash_keys)]
theorem data_begin : (Rows.laid_skewer_hash_begin : DataW Unit) = .agg ((Sha.begin8.map fun x => (x.toNat : Int)).map fun x => .lit (.int .u32 x)) := rfl
theorem data_keys : (Rows.laid_skewer_hash_keys : DataW Unit) = .agg ((Sha.keys64.map fun x => (x.toNat : Int)).map fun x => .lit (.int .u32 x)) := rfl
theorem glob_of_laid {W : World} (h : laidMetH Tryd.prog laid2 W) : Glob W := by
  rw [MakeChecks.laidMetH_plain _ _ _ (by kernel_rfl)] at h
  obtain ⟨ps, ⟨g, t, cs, fuel, p, q, hg, ht, hv, hd, ⟨g2, t2, cs2, fuel2, p2, q2, hg2, ht2, hv2, hd2, _, _⟩, _⟩, _, _⟩ := h
  obtain rfl := Option.some.inj ((show Tryd.prog.globalNamed "skewer/hash.begin" = some 0 by kernel_rfl).symm.trans hg)
  obtain rfl := Option.some.inj ((show (Tryd.prog.globals[0]?).map (·.type) = some 57 by kernel_rfl).symm.trans ht)
  obtain rfl := Option.some.inj ((show Tryd.prog.globalNamed "skewer/hash.keys" = some 1 by kernel_rfl).symm.trans hg2)
  obtain rfl := Option.some.inj ((show (Tryd.prog.globals[1]?).map (·.type) = some 73 by kernel_rfl).symm.trans ht2)
  rw [data_begin] at hd
  rw [data_keys] at hd2
  have e1 := cells_lits Tryd.underlying57 Tryd.underlying56 (by kernel_rfl) (by kernel_rfl) hd
  have e2 := cells_lits Tryd.underlying73 Tryd.underlying56 (by kernel_rfl) (by kernel_rfl) hd2
  refine ⟨fun i hi => ?_, fun i hi => ?_⟩
  · have := World.var?_cell hg hv i
    rw [this]
    have hc : cs[i]? = cs.toList[i]? := by simp
    rw [hc, e1]
    have hb : i < Sha.begin8.length := hi
    simp [hb]
  · have := World.var?_cell hg2 hv2 i
    rw [this]
    have hc : cs2[i]? = cs2.toList[i]? := by simp
    rw [hc, e2]
    have hb : i < Sha.keys64.length := hi
    simp [hb]
theorem laidWorld_met (os : Os) (args : Array Value) : laidMetH Tryd.prog laid2 ((World.laidAll Tryd.prog os laid2).forCall (fun _ _ => 0) ⟨#[], args, []⟩).memory := by
  rw [MakeChecks.laidMetH_plain _ _ _ (by kernel_rfl)]
  exact laidMet_laidAll _ (by kernel_rfl) (by kernel_rfl)
/-- A slice of bytes that came in, as the walks read it. -/
theorem bytes_in {H : Type} {enc : TypeId × Value → H} {W : World} {base : Nat} {v : Value} {d : DataW H} {p : List MemPlace} (hv : Value.okWide Tryd.prog W .any base 22 v)
    (h : DataW.Trod enc Tryd.prog W 0 (fun _ => true) true 22 v d p) : ∃ l : List UInt8, Sl W v l.length (u8s l) := by
  obtain ⟨fuel, hf⟩ := h
  have hok : ∃ ao len cap, v = .slice ao len cap := okWide_slice Tryd.underlying22 hv
  obtain ⟨ao, len, cap, rfl⟩ := hok
  simp only [Value.cells] at hf
  rcases Deep.open_slice1 Tryd.underlying22 (by kernel_rfl) hf with ⟨hc, _⟩ | ⟨a, len', cap', m, n, V, D, Pl, hc, hb, hl, hm, hmm, hx, hV⟩
  · have hc' : Value.slice ao len cap = .slice none 0 0 := by simpa using hc
    rw [hc']
    exact ⟨[], none, 0, rfl, Nat.le_refl _, by omega, fun _ => rfl, fun b o s e => by cases e⟩
  · have hc' : Value.slice ao len cap = .slice (some a) len' cap' := by simpa using hc
    rw [hc'] at hv ⊢
    have hspot : a.spot = none := by
      have := hv
      simp only [Value.okWide, Tryd.underlying22, Cell.okWide, Cell.ok] at this
      exact this.2.2.2.1
    have hm' : m = cap' := by simpa using hmm
    subst hm'
    have hint : ∀ i, i < m → ∃ x : UInt8, V i = .int .u8 x.toNat := by
      intro i hi
      obtain ⟨z, hz, _, hw⟩ := DataW.trod_int Tryd.underlying5 (hV i hi).2
      have hz' : V i = .int .u8 z := by simpa using hz
      have hr : 0 ≤ z ∧ z ≤ 255 := by simpa [Lit.wf, IntKind.min, IntKind.max, IntKind.signed, IntKind.bits] using hw
      refine ⟨UInt8.ofNat z.toNat, ?_⟩
      rw [hz', UInt8.toNat_ofNat']
      congr 1; omega
    obtain ⟨l, hll, hget⟩ : ∃ l : List UInt8, l.length = len' ∧ ∀ i, i < len' → V i = .int .u8 (l.getD i 0).toNat := by
      refine ⟨(List.range len').map fun i => match V i with | .int _ z => UInt8.ofNat z.toNat | _ => 0, by simp, fun i hi => ?_⟩
      obtain ⟨x, hx⟩ := hint i (by omega)
      simp [hi, hx]
    obtain ⟨b, o, s⟩ := a
    simp only at hspot
    subst hspot
    refine ⟨l, some ⟨b, o, none⟩, m, by rw [hll], by omega, by unfold maxLen at hm; omega, fun e => (by cases e), fun b' o' s' e => ?_⟩
    simp only [Option.some.injEq, Addr.mk.injEq] at e
    obtain ⟨rfl, rfl, rfl⟩ := e
    refine ⟨fun _ => rfl, fun j u hj => ?_⟩
    have hjl : j < l.length := by
      have := (List.getElem?_eq_some_iff.1 hj).1
      rwa [u8s_length] at this
    rw [u8s_get hjl] at hj
    have := (hV j (by omega)).1
    rw [addr_add, hget j (by omega)] at this
    rw [this]; exact hj
end Go.Proofs.YtmindblfbijaaaaDoor
namespace Go.Proofs.YtmindblfbijaaaaDoor
open Go.ChangeShapes Go.WideShapes Go.ChangeAt Go.RowKit
theorem u32D_row (xs : List UInt32) : (xs.map u32D) = (xs.map fun x => D.v (.int .u32 x.toNat)) := rfl
/-- The laid tables, as data. -/
theorem globD_of {W : World} (h : Glob W) : GlobD HG (CellsOf W) := by
  intro g d hg
  unfold HG at hg
  split at hg
  · rename_i e
    subst e
    cases hg
    refine .ptr _ _ _ _ (by simp [Sha.begin8]) (mem_of fun i d hi => ?_)
    have hl : i < Sha.begin8.length := by have := (List.getElem?_eq_some_iff.1 hi).1; simpa using this
    have hd : d = u32D Sha.begin8[i] := by simp [hl] at hi; exact hi.symm
    subst hd
    have := h.1 i (by simpa [Sha.begin8] using hl)
    refine ⟨.int .u32 Sha.begin8[i].toNat, ?_, rfl, .v _⟩
    show W.cell? ⟨0, 0 + i, none⟩ = _
    rw [Nat.zero_add, this]; simp [hl]
  · split at hg
    · rename_i e
      subst e
      cases hg
      refine .ptr _ _ _ _ (by simp [Sha.keys64]) (mem_of fun i d hi => ?_)
      have hl : i < Sha.keys64.length := by have := (List.getElem?_eq_some_iff.1 hi).1; simpa using this
      have hd : d = u32D Sha.keys64[i] := by simp [hl] at hi; exact hi.symm
      subst hd
      have := h.2 i (by simpa [Sha.keys64] using hl)
      refine ⟨.int .u32 Sha.keys64[i].toNat, ?_, rfl, .v _⟩
      show W.cell? ⟨1, 0 + i, none⟩ = _
      rw [Nat.zero_add, this]; simp [hl]
    · cases hg
theorem map_of {α β : Type} {f : α → β} : ∀ {xs : List β}, (∀ x ∈ xs, ∃ a, x = f a) → ∃ l : List α, xs = l.map f := by
  intro xs
  induction xs with
  | nil => intro _; exact ⟨[], rfl⟩
  | cons x xs ih =>
    intro h
    obtain ⟨a, rfl⟩ := h x (by simp)
    obtain ⟨l, rfl⟩ := ih fun y hy => h y (by simp [hy])
    exact ⟨a :: l, rfl⟩
theorem byte_typed {n : Nat} {x : List D} (h : TyD Tryd.prog (n + 1) 5 x) : ∃ b : UInt8, x = rowB b := by
  simp only [TyD, Tryd.underlying5] at h
  obtain ⟨z, rfl, h1, h2⟩ := h
  simp [IntKind.min, IntKind.max, IntKind.signed, IntKind.bits] at h1 h2
  refine ⟨UInt8.ofNat z.toNat, ?_⟩
  simp only [rowB, byteD, UInt8.toNat_ofNat']
  congr 3; omega
theorem bytes_typed {n : Nat} {x : List D} (h : TyD Tryd.prog (n + 2) 22 x) : ∃ l : List UInt8, x = [bytesL l] ∧ l.length ≤ 9223372036854775807 := by
  rw [TyD] at h
  simp only [Tryd.underlying22] at h
  obtain ⟨xs, rfl, h1, h2⟩ := h
  obtain ⟨l, rfl⟩ := map_of (f := rowB) fun x hx => byte_typed (h2 x hx)
  have : Tryd.prog.cellsOf 5 = 1 := by kernel_rfl
  exact ⟨l, by simp only [bytesL, this], by simpa using h1⟩
theorem rows_typed {n : Nat} {x : List D} (h : TyD Tryd.prog (n + 3) 23 x) : ∃ ls : List (List UInt8), x = [elemsL ls] ∧ ls.length ≤ 9223372036854775807 := by
  rw [TyD] at h
  simp only [Tryd.underlying23] at h
  obtain ⟨xs, rfl, h1, h2⟩ := h
  obtain ⟨l, rfl⟩ := map_of (f := rowE) fun x hx => by
    obtain ⟨l, hl, _⟩ := bytes_typed (h2 x hx)
    exact ⟨l, hl⟩
  have : Tryd.prog.cellsOf 22 = 1 := by kernel_rfl
  exact ⟨l, by simp only [elemsL, this], by simpa using h1⟩
theorem elems_typed {n : Nat} {d : D} (h : ArgD Tryd.prog (n + 3) 23 d) : ∃ xs : List (List UInt8), d = elemsL xs ∧ xs.length ≤ 9223372036854775807 := by
  simp only [ArgD, ag23] at h
  obtain ⟨ls, h1, h2⟩ := rows_typed h
  exact ⟨ls, by simpa using h1, h2⟩
theorem byteSlice_typed {n : Nat} {d : D} (h : ArgD Tryd.prog (n + 2) 22 d) : ∃ l : List UInt8, d = bytesL l ∧ l.length ≤ 9223372036854775807 := by
  simp only [ArgD, ag22] at h
  obtain ⟨l, h1, h2⟩ := bytes_typed h
  exact ⟨l, by simpa using h1, h2⟩
/-- The heart of a row. -/
theorem law_core {H : Type} {enc : TypeId × Value → H} {s : ChangeSpec} {fn : Func} {f : FuncId} {n : Nat} (hsv : s.vars = []) (hs : ∀ (ds : List (DataW H)), ds.length = fn.params.size → s.fn H ds = { results := [.lit (.bool true)], args := ds })
    (hres : fn.resultTypes = #[4]) (hfine : (fn.params.toList.all (fineT Tryd.prog n)) = true) (hread : (fn.params.toList.all fun t => Tryd.prog.readableRec t && decide (t < Tryd.prog.types.size)) = true)
    (hD : ∀ ds, ArgsD Tryd.prog n fn.params.toList ds → CallsD Tryd.prog HG f ds (.v (.bool true)))
    (W : World) (base : Nat) (args : Array Value) (ds gs : List (DataW H)) (before : List MemPlace) (hval : ∀ (j : Nat) t v, fn.params[j]? = some t → args[j]? = some v → Value.okWide Tryd.prog W .any base t v)
    (hW : DataW.Whole enc Tryd.prog fn.params.toList s.vars false W args.toList ds gs before) (hL : laidMetH Tryd.prog laid2 W) :
    Calls Tryd.prog f args W fun e W' => ∃ v, e = .returned v ∧ s.post enc Tryd.prog fn false true false false W args v W' := by
  have hW' := hW
  obtain ⟨p, q, hA, hV, rfl, _, _⟩ := hW
  obtain ⟨hlen, xs, hrep, harg⟩ := args_rep (w := W) hfine (fun j t v h1 h2 => hval j t v (by simpa using h1) (by simpa using h2)) hA
  rw [hsv] at hV
  obtain ⟨rfl, rfl⟩ := trodVars_none hV
  have hlt : ∀ x ∈ p, x.block < W.heap.size := fun x hx => hW'.lt x (by simp [hx])
  have hc := hD xs harg (CellsOf W) W args.toList (globD_of (glob_of_laid hL)) (known_cells W) hrep
  rw [Array.toArray_toList] at hc
  refine hc.mono ?_
  rintro e W' ⟨v, C', rfl, hm, hv⟩
  have := Rep.v_eq hv
  subst this
  have hsp := hs ds (by rw [hlen]; simp)
  have hres' : fn.resultTypes.toList = [4] := by rw [hres]
  have hb := hm.below
  refine ⟨_, rfl, ds, [], _, [], p, [], hW', ?_, ?_, ?_, hb.frame _, fun h => by cases h⟩
  · rw [List.append_nil, hsp, hres', hres]
    exact trodAll_mk1 (shut_bool Tryd.underlying4 true)
  · rw [List.append_nil, hsp]
    exact args_stay laidOut hread hA hb hlt
  · rw [hsv, List.append_nil, hsp]; rfl
theorem argsD_cons {P : Program} {n : Nat} {t : TypeId} {ts : List TypeId} {ds : List D} (h : ArgsD P n (t :: ts) ds) : ∃ d r, ds = d :: r ∧ ArgD P n t d ∧ ArgsD P n ts r := by
  cases ds with
  | nil => exact h.elim
  | cons d r => exact ⟨d, r, rfl, h.1, h.2⟩
theorem argsD_nil {P : Program} {n : Nat} {ds : List D} (h : ArgsD P n [] ds) : ds = [] := by
  cases ds with
  | nil => rfl
  | cons d r => exact h.elim
end Go.Proofs.YtmindblfbijaaaaDoor
