/-
  Lemmas, part 3 of 6: walks through the program's functions, and plain Lean about what they compute.
-/
import Derived.RangeFuncNested
import Derived.RangeFuncBound
import Derived.RangeFuncCalls
import Derived.RangeFuncLeaves
import Derived.RangeFuncFrom
import Derived.Shelf.Abstract
import Derived.Shelf.RegionOpen
import Derived.OwnWalkIn
import Derived.TacticsInMore
import Derived.LoopNIn
import Derived.LoopIn
import Derived.Test.YtmindblfbijaaaaDoorRows
import Derived.WalkKit
import Derived.WalkSpells
import Derived.WalkLawsBesides
import Derived.BigQuiet
import Derived.Deep.QuietTactic
import Derived.Deep.RegionHeld3
import Derived.Deep.DeepCutAuto
import Derived.Deep.LoopGhost
import Derived.StillTailTactics
import Derived.Lib.Hide
import Derived.Handy
import Derived.Laws.AppendOwnNone
import Derived.Lib.AppendZerosOnto
import Derived.Lib.ItoaNum
import Derived.Test.YtmindblfbijaaaaDoorShelf
import Derived.Stop.BytesEq
import Derived.Lib.SlBytesConst
import Derived.Test.YtmindblfbijaaaaDoorZ1
import Derived.Test.YtmindblfbijaaaaDoorZ2
set_option linter.unnecessarySimpa false
set_option linter.unusedSimpArgs false
set_option linter.unusedVariables false
namespace Go.Proofs.YtmindblfbijaaaaDoor
open Go.RowKit Go.Shelf
attribute [local go_sem] Oper.semAt_some
/-- The two tables. -/
def Glob (w : World) : Prop := (∀ i, i < 8 → w.cell? ⟨0, i, none⟩ = some (.int .u32 (Sha.begin8.getD i 0).toNat)) ∧ (∀ i, i < 64 → w.cell? ⟨1, i, none⟩ = some (.int .u32 (Sha.keys64.getD i 0).toNat))
theorem Glob.below {B : Nat} {w w' : World} (h : Glob w) (hb : Below B w w') (hB : 2 ≤ B) : Glob w' :=
  ⟨fun i hi => (hb.cell (p := ⟨0, i, none⟩) (by simp; omega)).trans (h.1 i hi), fun i hi => (hb.cell (p := ⟨1, i, none⟩) (by simp; omega)).trans (h.2 i hi)⟩
theorem Glob.size {w : World} (h : Glob w) : 2 ≤ w.heap.size := block_lt_of_cell (h.2 0 (by omega))
theorem elU8 : ElemT Tryd.prog 22 5 (.int .u8 0) 1 1 := ⟨Tryd.underlying22, by kernel_rfl, rfl, by decide⟩
theorem agg32 : AggT Tryd.prog 28 32 := ⟨fun _ => by kernel_rfl, by kernel_rfl⟩
theorem arr_one (w : World) (v : Value) (T : TypeId) : Arr (w.alloc (.cells #[v] T)) w.heap.size [v] := Arr.new w [v] T
set_option maxRecDepth 100000 in
set_option maxHeartbeats 1000000 in
theorem sum_any (v : Value) (l : List UInt8) (w : World) (hg : Glob w) (hS : Sl w v l.length (u8s l)) (hn : l.length ≤ 1000000) :
    Calls Tryd.prog 12 #[v] w fun e w' => e = .returned (.agg (u8s (Sha.sum l)).toArray) ∧ Below w.heap.size w w' := by
  obtain ⟨ao, cap, rfl, hle, hcap, hnil, hcell⟩ := hS
  obtain ⟨n, hnn⟩ : ∃ n, n = l.length := ⟨_, rfl⟩
  rw [← hnn] at hle hn
  have Hn := Lib.hid hnn
  have HG := Lib.hid hg; clear hg
  have HC := Lib.hid hcell; clear hcell
  have Hnil := Lib.hid hnil; clear hnil
  rw [← hnn]
  clear hnn
  refine callsIn_wide (n := 2).1 ?_
  refine callsIn_of_wp_marks Tryd.func12 rfl trivial ?_ rfl
  simp only [Tryd.ntmps12, List.size_toArray, List.length_cons, List.length_nil, Nat.reduceAdd, Nat.reduceSub, Array.replicate_succ, Array.replicate_zero, List.push_toArray, List.append_toArray, List.nil_append, List.cons_append]
  refine wpIn_wide.2 ?_
  go_wp2_with (first
    | (go_at_call 29; refine (clip_any ao n cap _ hle hcap Hnil.out).mono ?_; rintro e w' ⟨rfl, rfl⟩)
    | (at_builtin; refine Hid.out ?_))
  refine stop ?_
  refine wpList_push_grow elU8 rfl _ _ rfl ao n (u8s l) rfl (fun h => by have := Hnil.out h; omega) (by rw [u8s_length, ← Hn.out, Nat.mul_one]) (fun b o s e => ⟨fun h => (HC.out b o s e).1 (by omega), fun j u hj => ?_⟩) _ rfl [.int .u8 128] (Arr.newAt (by simp) _ _) rfl (by simp [Value.oneCell']) (by omega) (by omega) ?_
  · have := (HC.out b o s e).2 j u hj
    exact cellK (((Below.refl _ _).alloc (Nat.le_refl _) _).alloc (by simp) _) this
  intro g1 cap1 w1 hown hgr hg1 hlt1
  have hB1 : Below w.heap.size w w1 := (((Below.refl _ _).alloc (Nat.le_refl _) _).alloc (by simp) _).grown hgr (by simp; omega) (by intro k hk; cases hk)
  have hA0 : Arr w1 w.heap.size (u8s (List.replicate 32 0)) := ((Arr.new w (u8s (List.replicate 32 0)) _).alloc _).grown hgr (by simp)
  have hown' : w1.ownsRow (w.heap.size + 1) 5 1 (.slice (some ⟨g1, 0, none⟩) (n + 1) cap1) (n + 1) (u8s (l ++ [128])) := by
    have : u8s (l ++ [128]) = u8s l ++ [.int .u8 128] := by simp [u8s]
    rw [this]
    exact own_base hown (by simp)
  have hg1' : w.heap.size + 1 ≤ g1 := by simp at hg1; omega
  clear hown hgr hcap hle hg1
  go_wp2
  go_loopw [3] (fun v wr => ∃ j : Nat, j ≤ Sha.zeros n ∧ ∃ g cap, v = .slice (some ⟨g, 0, none⟩) (n + 1 + j) cap ∧ w.heap.size + 1 ≤ g ∧ g < wr.heap.size ∧ wr.ownsRow (w.heap.size + 1) 5 1 (.slice (some ⟨g, 0, none⟩) (n + 1 + j) cap) (n + 1 + j) (u8s (l ++ [128] ++ List.replicate j 0)) ∧ Arr wr w.heap.size (u8s (List.replicate 32 0)) ∧ Below w.heap.size w wr) (fun v _ => n + 1 + Sha.zeros n - slLen v)
  case atStart => exact ⟨0, by omega, g1, cap1, rfl, hg1', hlt1, by simpa using hown', hA0, hB1⟩
  case round =>
    clear hB1 hA0 hown' hlt1 hg1'
    obtain ⟨j, hj, g, cap, rfl, hgB, hgl, hown, hA, hB⟩ := hrel
    have hz : Sha.zeros n ≤ 63 := by unfold Sha.zeros; omega
    have Hown := Lib.hid hown; clear hown
    have HA := Lib.hid hA; clear hA
    have hsz := hB.size
    have HB := Lib.hid hB; clear hB
    by_cases hlt : j < Sha.zeros n
    · have ht := Sha.zeros_test n j hlt
      have hb : (((n : Int) + 1 + j + 8) % 64 != 0) = true := by rw [bne_iff_ne]; omega
      have HL := Lib.hid hlt
      have hj63 : j ≤ 62 := by omega
      clear hlt hj ht hz
      go_wp2_with (at_builtin; refine Hid.out ?_)
      refine stop ?_
      refine wpList_push_at elU8 rfl _ _ rfl (w.heap.size + 1) (n + 1 + j) _ _ _ rfl (Hown.out.alloc _) _ rfl [.int .u8 0] (Arr.newAt rfl _ _) rfl (by simp [Value.oneCell']) (by omega) (by omega) (by simp; omega) ?_
      intro g2 cap2 w2 hown2 hgr2 hg2 hlt2
      have hB2 : Hid (Below w.heap.size w w2) := by
        refine stop ((HB.out.alloc HB.out.size _).grown hgr2 ?_ ?_)
        · rw [World.size_alloc]; omega
        · intro k hk; cases hk; omega
      have hA2 : Hid (Arr w2 w.heap.size (u8s (List.replicate 32 0))) := stop ((HA.out.alloc _).grown hgr2 (by intro h; cases h; omega))
      have Hown2 := Lib.hid hown2
      clear hown2 hgr2
      go_wp2
      go_roundw
      case rel =>
        refine ⟨j + 1, HL.out, g2, cap2, rfl, hg2, hlt2, ?_, hA2.out, hB2.out⟩
        have e : u8s (l ++ [128] ++ List.replicate (j + 1) 0) = u8s (l ++ [128] ++ List.replicate j 0) ++ [.int .u8 0] := by
          rw [List.replicate_succ', ← List.append_assoc]; simp [u8s]
        rw [e]; exact Hown2.out
      case measure => simp [slLen]; have := HL.out; omega
    · have hje : j = Sha.zeros n := by omega
      have hb : (((n : Int) + 1 + j + 8) % 64 != 0) = false := by
        have := Sha.zeros_end n
        rw [bne_eq_false_iff_eq]; omega
      have HJ := Lib.hid hje
      have hj63 : j ≤ 63 := by omega
      clear hlt hj hz hje
      go_wp2_with (at_builtin; refine Hid.out ?_)
      go_loopw [3, 4] (fun v s wr => ∃ i : Nat, i ≤ 8 ∧ s = .int .i64 (56 - 8 * (i : Int)) ∧ ∃ g cap, v = .slice (some ⟨g, 0, none⟩) (n + 1 + j + i) cap ∧ w.heap.size + 1 ≤ g ∧ g < wr.heap.size ∧ wr.ownsRow (w.heap.size + 1) 5 1 (.slice (some ⟨g, 0, none⟩) (n + 1 + j + i) cap) (n + 1 + j + i) (u8s (l ++ [128] ++ List.replicate j 0 ++ (Sha.lenBytes n).take i)) ∧ Arr wr w.heap.size (u8s (List.replicate 32 0)) ∧ Below w.heap.size w wr) (fun v _ _ => n + 1 + j + 8 - slLen v)
      case atStart => exact ⟨0, by omega, rfl, g, cap, rfl, hgB, hgl, by simpa using Hown.out, HA.out, HB.out⟩
      case round =>
        clear HA HB Hown hgB hgl hsz
        obtain ⟨i, hi, rfl, g, cap, rfl, hgB, hgl, hown, hA, hB⟩ := hrel
        have Hown := Lib.hid hown; clear hown
        have HA := Lib.hid hA; clear hA
        have hsz := hB.size
        have HB := Lib.hid hB; clear hB
        by_cases hlt : i < 8
        · have h56 : (0 : Int) ≤ 56 - 8 * i := by omega
          go_wp2_with (at_builtin; refine Hid.out ?_)
          refine stop ?_
          refine wpList_push_at elU8 rfl _ _ rfl (w.heap.size + 1) (n + 1 + j + i) _ _ _ rfl (Hown.out.alloc _) _ rfl [_] (Arr.newAt rfl [_] _) rfl ?_ (by omega) (by omega) (by simp; omega) ?_
          · intro u hu; simp only [List.mem_singleton] at hu; subst hu; rfl
          intro g2 cap2 w2 hown2 hgr2 hg2 hlt2
          have hB2 : Hid (Below w.heap.size w w2) := by
            refine stop ((HB.out.alloc HB.out.size _).grown hgr2 ?_ ?_)
            · rw [World.size_alloc]; omega
            · intro k hk; cases hk; omega
          have hA2 : Hid (Arr w2 w.heap.size (u8s (List.replicate 32 0))) := stop ((HA.out.alloc _).grown hgr2 (by intro h; cases h; omega))
          have Hown2 := Lib.hid hown2
          clear hown2 hgr2
          go_wp2
          go_roundw
          case rel =>
            refine ⟨i + 1, by omega, by go_num, g2, cap2, rfl, hg2, hlt2, ?_, hA2.out, hB2.out⟩
            have e : u8s (l ++ [128] ++ List.replicate j 0 ++ (Sha.lenBytes n).take (i + 1)) = u8s (l ++ [128] ++ List.replicate j 0 ++ (Sha.lenBytes n).take i) ++ [.int .u8 (8 * ↑n / 2 ^ (56 - 8 * i) % 256)] := by
              rw [Sha.lenBytes_take n i hlt, ← List.append_assoc]
              simp only [u8s, List.map_append, List.map_cons, List.map_nil]
              congr 3
            rw [e]; exact Hown2.out
          case measure => simp [slLen]; omega
        · obtain rfl : i = 8 := by omega
          have hg2 := HG.out.below HB.out HG.out.size
          have hgb := Lib.hid hg2.1
          clear hg2
          go_wp2_with (first
            | (refine wpList_load_cells rfl _ _ rfl 0 0 rfl (u32s Sha.begin8) agg8 (fun j v hv => ?_) ?_)
            | (refine wpList_store_cells rfl rfl _ _ _ rfl _ _ rfl (u32s Sha.begin8) rfl agg8.2 (u32s_one _) _ (Arr.newAt rfl (u32s (List.replicate 8 0)) _) (by decide) ?_; intro w3 hA3 hG3)
            | (go_at_call 30; refine (chunk_any _ _ _ _).mono ?_; rintro e w' ⟨rfl, hw'⟩))
          · have hj8 : j < 8 := by
              have := (List.getElem?_eq_some_iff.1 hv).1
              simpa [u32s, Sha.begin8] using this
            rw [u32s_get (l := Sha.begin8) (by simpa [Sha.begin8] using hj8), Option.some.injEq] at hv
            rw [← hv, Nat.zero_add]; exact hgb.out j hj8
          obtain ⟨cur, hcur, htake, hcle, hcmax, hclen⟩ := own_arr Hown.out
          have hpad : l ++ [128] ++ List.replicate j 0 ++ (Sha.lenBytes n).take 8 = Sha.padded l := by
            rw [HJ.out, Hn.out, List.take_of_length_le (by simp [Sha.lenBytes])]; rfl
          rw [hpad, Nat.mul_one] at htake
          obtain ⟨m, hm⟩ : ∃ m, m = (Sha.padded l).length / 64 := ⟨_, rfl⟩
          have hmod := Sha.padded_mod l
          have hplen := Sha.padded_length l
          rw [← hm] at hmod
          rw [← Hn.out, ← HJ.out] at hplen
          have h64 : n + 1 + j + 8 = 64 * m := by omega
          rw [h64] at hw' htake hcle ⊢
          have eA : lay (u32s (List.replicate 8 0)) 0 (u32s Sha.begin8) = u32s Sha.first.list := rfl
          rw [eA] at hA3
          obtain ⟨b5, hb5⟩ : ∃ b, b = wr.heap.size := ⟨_, rfl⟩
          rw [← hb5] at hA3 hG3 ⊢
          have hB3 : Below w.heap.size w w3 := by
            refine (HB.out.alloc HB.out.size _).grown hG3 ?_ ?_
            · rw [World.size_alloc]; omega
            · intro k hk; cases hk; omega
          have hZ3 : Arr w3 w.heap.size (u8s (List.replicate 32 0)) := (HA.out.alloc _).grown hG3 (by intro h; cases h; omega)
          have hC3 : Arr w3 g cur := (hcur.alloc _).grown hG3 (by intro h; cases h; omega)
          have hs3 : b5 < w3.heap.size := hA3.lt
          have hBw : Below w3.heap.size w3 w' := by rw [hw']; exact ((Below.refl _ _).alloc (Nat.le_refl _) _).alloc (by simp) _
          have c0 : w'.cell? ⟨w3.heap.size, 0, none⟩ = some (.slice (some ⟨g, 0, none⟩) (64 * m) cap) := by rw [hw']; simp
          have c1 : w'.cell? ⟨w3.heap.size + 1, 0, none⟩ = some (.int .i64 64) := by rw [hw']; simp
          have hsw : w3.heap.size + 1 < w'.heap.size := block_lt_of_cell c1
          have A5 := hA3.below' hBw
          have AZ := hZ3.below' hBw
          have AC := hC3.below' hBw
          have BW := hB3.trans (hBw.mono hB3.size)
          have hB3s := hB3.size
          rw [← hw']
          clear hw' hA3 hZ3 hC3 hB3 hBw hG3 HA HB Hown hgb hcur
          have hgb5 : g ≠ b5 := by omega
          have HT := Lib.hid htake; have H64 := Lib.hid h64; have HM := Lib.hid hm; have HMO := Lib.hid hmod
          have D0 := Lib.hid c0; have D1 := Lib.hid c1; have HB5 := Lib.hid hb5; have HBW := Lib.hid BW
          have hwb5 : w.heap.size ≤ b5 := by omega
          clear htake h64 hm hmod c0 c1 hb5 BW eA hpad hclen hplen
          refine (wpIn_wide (n := 2)).1 ?_
          refine wpIn_rangeFunc_ownF (F := Fence.wide) (n := 2) rfl (by decide) (gf := 42) (lb := #[.pointer (some ⟨w3.heap.size, 0, none⟩), .pointer (some ⟨w3.heap.size + 1, 0, none⟩)]) rfl trivial Tryd.call42
            (chunk_stops 1 (by decide) w3.heap.size g m cap hcle hcmax w' hsw D0.out D1.out) (fun h k => h.trans k) (fun W l o o' hl _ _ _ => KpC.putObj W o' (by omega)) (Below.refl _ _) (fun _ => rfl)
            (fun (pre : List (Fin m)) W => Arr W b5 (u32s (Sha.foldB (Sha.padded l) (pre.map (·.1))).list) ∧ Arr W w.heap.size (u8s (List.replicate 32 0)) ∧ Arr W g cur ∧ Below w.heap.size w W ∧ w'.heap.size ≤ W.heap.size) (fun _ _ _ => False) ?hI (fun _ _ _ _ _ h _ _ => h) ⟨A5, AZ, AC, HBW.out, Nat.le_refl _⟩ ?a1 ?assign ?body ?done ?stop
          case assign =>
            intro l x W K hK
            gi_wp2
            exact hK
          case hI =>
            intro s W W' row hs hg hr
            have hr' : ∀ r, row = some r → ∃ o : Obj, W.heap[r]? = some o ∧ o.isCells = false := fun r e => (hr r e).2
            refine ⟨hs.1.ownK hg hr', hs.2.1.ownK hg hr', hs.2.2.1.ownK hg hr', hs.2.2.2.1.grown hg hs.2.2.2.1.size (fun r e => Nat.le_trans HBW.out.size (hr r e).1), Nat.le_trans hs.2.2.2.2 hg.size⟩
          case body =>
            intro l' pre x W hI hlen
            obtain ⟨I5, IZ, IC, IB, IS⟩ := hI
            have hxm := x.2
            obtain ⟨s, hs⟩ : ∃ s, s = Sha.foldB (Sha.padded l) (pre.map (·.1)) := ⟨_, rfl⟩
            rw [← hs] at I5
            have hgW := HG.out.below IB HG.out.size
            have hcell : ∀ i, i < 64 → W.cell? ⟨g, 64 * x.1 + i, none⟩ = some (.int .u8 ((((Sha.padded l).drop (64 * x.1)).take 64).getD i 0).toNat) := by
              intro i hi
              refine IC.cell ?_
              have h1 : (cur.take (64 * m))[64 * x.1 + i]? = cur[64 * x.1 + i]? := List.getElem?_take_of_lt (by omega)
              rw [← h1, HT.out, u8s_get (by have := HMO.out; omega)]
              congr 4
              simp [List.getElem?_take_of_lt hi]
            have J5 := Lib.hid I5; clear I5
            have JZ := Lib.hid IZ; clear IZ
            have JC := Lib.hid IC; clear IC
            have JB := Lib.hid IB; clear IB
            have JG := Lib.hid hgW; clear hgW
            have JH := Lib.hid hcell; clear hcell
            have HS := Lib.hid hs; clear hs
            have hgW : g < W.heap.size := JC.out.lt
            gi_wp2_with (first
              | (refine wpListIn_load_cells (fun _ => trivial) rfl _ _ rfl b5 0 rfl (u32s s.list) agg8 (fun j v hv => by rw [Nat.zero_add]; exact J5.out.cell hv) ?_)
              | (refine ⟨trivial, rfl, ?_⟩; gi_at_call 31; refine (CallsIn.inRound l' (callsIn_wide.2 (after_any g (64 * x.1) 64 s (((Sha.padded l).drop (64 * x.1)).take 64) W hgW JH.out JG.out.2))).mono ?_; rintro e w4 ⟨rfl, hb4⟩)
              | (refine wpListIn_store_cells (fun _ => trivial) rfl rfl _ _ _ rfl b5 0 rfl (u32s (Sha.after s (((Sha.padded l).drop (64 * x.1)).take 64)).list) rfl agg8.2 (u32s_one _) _ (J5.out.below' hb4) (by simp [u32s_length, s8_len]) ?_; intro w5 hA5 hG5))
            rw [lay_whole _ _ (by simp [u32s_length, s8_len])] at hA5
            have hb4' : Below w.heap.size w w4 := JB.out.trans (hb4.mono JB.out.size)
            have hs4 := hb4.size
            refine ⟨(keeps_of_below hb4).trans (keeps_of_grown (J5.out.below' hb4) hG5), (KpC.of_below hb4 (by omega)).trans ⟨hG5.block _ (by omega) (by intro h; cases h; omega), hG5.block _ (by omega) (by intro h; cases h; omega)⟩, ?_, (JZ.out.below' hb4).grown hG5 ?_, (JC.out.below' hb4).grown hG5 ?_, hb4'.grown hG5 hb4'.size ?_, ?_⟩
            · rw [List.map_append, List.map_cons, List.map_nil, Sha.foldB_snoc, ← HS.out]; exact hA5
            · intro h; cases h; have := HB5.out; omega
            · intro h; cases h; exact hgb5 rfl
            · intro k hk; cases hk; exact hwb5
            · have := hG5.size; omega
          case done =>
            rintro D ys W hD hys ⟨I5, IZ, IC, IB, IS⟩ hK
            have e : ys.map (·.1) = List.range m := by
              rw [hys]
              apply List.ext_getElem (by simp)
              intro i h1 h2
              simp
            rw [e, Sha.foldB_range, HM.out] at I5
            obtain ⟨s, hs⟩ : ∃ s, s = Sha.over (Sha.padded l) ((Sha.padded l).length / 64) := ⟨_, rfl⟩
            rw [← hs] at I5
            have HS := Lib.hid hs; clear hs e hys
            have G5 := Lib.hid I5; clear I5
            have GZ := Lib.hid IZ; clear IZ
            have GB := Lib.hid IB; clear IB
            have GK := Lib.hid hK; clear hK
            clear IC A5 AZ AC
            have hls : s.list.length = 8 := rfl
            have h28 : w.heap.size < W.heap.size := GZ.out.lt
            have h59 : b5 < W.heap.size := G5.out.lt
            clear hls
            go_wp2
            go_loopw [42] (fun i wr => ∃ k : Nat, k ≤ 32 ∧ i = .int .i64 k ∧ Arr wr W.heap.size (u8s ((Sha.out s).take k ++ List.replicate (32 - k) 0)) ∧ Arr wr b5 (u32s s.list) ∧ Arr wr w.heap.size (u8s (List.replicate 32 0)) ∧ Below w.heap.size w wr ∧ wr.heap[D]? = some (.deferred (some []))) (fun i _ => 32 - (intOf i).toNat)
            case atStart =>
              refine ⟨0, by omega, rfl, ?_, G5.out.alloc _, GZ.out.alloc _, GB.out.alloc GB.out.size _, (Below.heap_alloc W _ D (lt_of_block GK.out)).trans GK.out⟩
              exact Arr.new W (u8s (List.replicate 32 0)) _
            case round =>
              have hDl : D < W.heap.size := lt_of_block GK.out
              clear G5 GZ GB GK
              obtain ⟨k, hk, rfl, h6, h5, hZ, hB, hK⟩ := hrel
              by_cases hlt : k < 32
              · have cx := h5.cell (u32s_get (l := s.list) (i := k / 4) (by show k / 4 < 8; omega))
                obtain ⟨x, hx⟩ : ∃ x, x = s.list.getD (k / 4) 0 := ⟨_, rfl⟩
                rw [← hx] at cx
                have HX := Lib.hid hx; clear hx
                have fx := h6.frozen k
                have hl32 : ((Sha.out s).take k ++ List.replicate (32 - k) (0 : UInt8)).length = 32 := by
                  rw [List.length_append, List.length_take, List.length_replicate, Sha.out_length]; omega
                have c6 := h6.cell (u8s_get (i := k) (by rw [hl32]; exact hlt))
                obtain ⟨old, hold⟩ : ∃ x, x = ((Sha.out s).take k ++ List.replicate (32 - k) (0 : UInt8)).getD k 0 := ⟨_, rfl⟩
                rw [← hold] at c6
                clear hold hl32
                have G6 := Lib.hid h6; clear h6
                have G5 := Lib.hid h5; clear h5
                have GZ := Lib.hid hZ; clear hZ
                have GB := Lib.hid hB; clear hB
                have GK := Lib.hid hK; clear hK
                have lx := lt32 x
                go_wp2
                have hv : ((x.toNat : Int) / 2 ^ (24 - 8 * (k % 4)) % 256) = ((UInt8.ofNat (x.toNat / 2 ^ (24 - 8 * (k % 4)))).toNat : Int) := by
                  rw [show (UInt8.ofNat (x.toNat / 2 ^ (24 - 8 * (k % 4)))).toNat = x.toNat / 2 ^ (24 - 8 * (k % 4)) % 256 from rfl]
                  simp
                rw [hv]
                refine ⟨⟨k + 1, by omega, by go_num, ?_, G5.out.other (by simp; omega) _, GZ.out.other (by simp; omega) _, GB.out.setCell (by simp; omega) _, ?_⟩, by simp [intOf]; omega⟩
                · rw [← Sha.out_set s k hlt, ← HX.out, ← u8s_set]
                  exact G6.out.set _ _
                · rw [Below.heap_setCell _ _ _ _ (by simp; omega)]; exact GK.out
              · have hk32 : k = 32 := by omega
                have h6' : Arr wr W.heap.size (u8s (Sha.out s)) := by
                  rw [hk32, List.take_of_length_le (by rw [Sha.out_length]; omega)] at h6
                  simpa using h6
                have hlo : (u8s (Sha.out s)).length = 32 := by rw [u8s_length, Sha.out_length]
                have G6 := Lib.hid h6'; clear h6 h6' hk32
                have GZ := Lib.hid hZ; clear hZ
                have GB := Lib.hid hB; clear hB
                have GK := Lib.hid hK; clear hK
                have HLO := Lib.hid hlo; clear hlo h5
                go_wp2_with (first
                  | (refine wpList_load_cells rfl _ _ rfl _ 0 rfl (u8s (Sha.out s)) (by rw [HLO.out]; exact agg32) (fun j v hv => by rw [Nat.zero_add]; exact G6.out.cell hv) ?_)
                  | (refine wpList_store_cells rfl rfl _ _ _ rfl _ 0 rfl (u8s (Sha.out s)) rfl (by rw [HLO.out]; exact agg32.2) (u8s_one _) _ GZ.out (by rw [HLO.out, u8s_length, List.length_replicate]; decide) ?_; intro w2 hA2 hG2))
                rw [lay_whole _ _ (by rw [HLO.out, u8s_length, List.length_replicate])] at hA2
                have hDw : w.heap.size < D := by have := HBW.out.size; have := HB5.out; omega
                have hK2 : w2.heap[D]? = some (.deferred (some [])) := by
                  rw [hG2.block D (lt_of_block GK.out) (by intro h; cases h; omega)]; exact GK.out
                refine ⟨by simp, .inl ⟨_, _, rfl, run_takeDeferred hK2, ?_⟩⟩
                have hA3 := hA2.grown (grownBy_putObj' w2 D (.deferred none)) (by intro h; cases h; omega)
                refine ⟨_, results_cells rfl _ w.heap.size rfl (u8s (Sha.out s)) hA3 (by rw [HLO.out]; exact agg32), ?_, ?_⟩
                · rw [HS.out]; rfl
                · refine (GB.out.grown hG2 GB.out.size (by intro k hk; cases hk; omega)).grown (grownBy_putObj' w2 D (.deferred none)) ?_ (by intro k hk; cases hk; omega)
                  exact Nat.le_trans GB.out.size hG2.size
          case stop => exact fun _ _ _ _ _ _ h _ => h.elim
end Go.Proofs.YtmindblfbijaaaaDoor
namespace Go.Proofs.YtmindblfbijaaaaDoor
open Go.RowKit
section
variable {P : Program} {ops : Array Oper} {rest : List Oper} {o : Oper} {a : Act} {w : World} {Q : Exit → Act → World → Prop} {t e : TypeId} {z : Value} {size bytes : Nat}
theorem grownBy_refl (w : World) (row : Option Nat) : w.grownBy w row := ⟨rfl, rfl, rfl, Nat.le_refl _, fun _ _ _ => rfl⟩
/-- append(v, x...): v is owned, x reads as news. -/
theorem wpList_append_sl (hE : ElemT P t e z size bytes) (hgd : o.guard = none) (s x : Operand) (ho : o.op = .call ⟨.builtin .append, #[s, x], #[t, t]⟩) (base : Nat) (v : Value) (n : Nat) (xs : List Value)
    (hs : a.eval s = v) (hown : w.ownsRow base e size v n xs) (xv : Value) (m : Nat) (news : List Value) (hx : a.eval x = xv) (hS : Sl w xv m news) (hl : news.length = m * size) (h1 : ∀ u ∈ news, u.oneCell' = true)
    (hn : n + m ≤ 140737488355328) (hn2 : (n + m) * bytes ≤ 140737488355328) (hbase : base ≤ w.heap.size)
    (h : ∀ v' w', w'.ownsRow base e size v' (n + m) (xs ++ news) → w.grownBy w' v.ownBlock → wpList P ops Q rest (a.put o.dst v') w') :
    wpList P ops Q (o :: rest) a w := by
  obtain ⟨i0, hi, hz0, hz1, hz2⟩ := info_parts hE.info
  obtain ⟨ao, cap, rfl, hle, hcap, hnil, hc⟩ := hS
  cases ao with
  | none =>
    obtain rfl := hnil rfl
    obtain rfl : m = 0 := by omega
    obtain rfl : news = [] := List.length_eq_zero_iff.1 (by simpa using hl)
    refine wpList_append_own_none hgd s x t ho base e i0 size hE.und hi v n xs hs hown hx ?_
    exact h v w (by simpa using hown) (grownBy_refl _ _)
  | some ad =>
    obtain ⟨b, off, sp⟩ := ad
    obtain ⟨hs0, hc'⟩ := hc b off sp rfl
    by_cases hm0 : m = 0
    · subst hm0
      obtain rfl : news = [] := List.length_eq_zero_iff.1 (by simpa using hl)
      refine wpList_append_own _ hgd s x t ho base e i0 z size bytes hE.und hi hz0 hz1 hz2 hE.zs hE.pos v n xs hs hown ⟨b, off, sp⟩ 0 cap [] hx hl (fun j u hj => by simp at hj) h1 (by unfold maxLen; omega) hn2 hbase ?_
      exact fun v' w' h1 h2 _ => h v' w' h1 h2
    obtain rfl := hs0 (by omega)
    refine wpList_append_own _ hgd s x t ho base e i0 z size bytes hE.und hi hz0 hz1 hz2 hE.zs hE.pos v n xs hs hown ⟨b, off, none⟩ m cap news hx hl (fun j u hj => by rw [addr_add]; exact hc' j u hj) h1 (by unfold maxLen; omega) hn2 hbase ?_
    exact fun v' w' h1 h2 _ => h v' w' h1 h2
/-- append(nil, make([]E, k)...): a new row of k zero elements, with some capacity. -/
theorem wpList_append_make_nil (hE : ElemT P t e z size bytes) (hgd : o.guard = none) (s x : Operand) (tn : TypeId) (kn : IntKind) (htn : P.underlying tn = some (.int kn)) (ho : o.op = .call ⟨.builtin .append, #[s, x], #[t, tn]⟩)
    (k : Nat) (hs : a.eval s = .slice none 0 0) (hx : a.eval x = .int .i64 k) (hk : 0 < k) (hn2 : k * bytes ≤ 140737488355328) (hk2 : k ≤ 140737488355328)
    (h : ∀ cap w', k ≤ cap → cap ≤ 9223372036854775807 → w'.ownsRow w.heap.size e size (.slice (some ⟨w.heap.size, 0, none⟩) 0 cap) 0 [] → w.grownBy w' none → w.heap.size < w'.heap.size → wpList P ops Q rest (a.put o.dst (.slice (some ⟨w.heap.size, 0, none⟩) k cap)) w') :
    wpList P ops Q (o :: rest) a w := by
  obtain ⟨i0, hi, hz0, hz1, hz2⟩ := info_parts hE.info
  have hp := hE.pos
  have hold : (Builtin.firstCells i0.size 0 (.slice none 0 0)).run P w.drew = .ok (#[] : Array Value) w.drew := run_firstCells_none w.drew i0.size 0 0 0
  have hnx : Builtin.nextslicecap (0 + k) 0 = k := by unfold Builtin.nextslicecap; simp [hk]
  have hrun := Lib.run_append_grow_zeros w t tn o.type e i0 z .i64 kn hE.und htn hi hz0 none 0 0 [] hold k hk (by rw [hz1]; exact hp) (by omega) (by omega) (by rw [hz2]; omega) (by rw [hnx, hz2]; omega)
  have hge := grownCap_ge w (0 + k) 0 e
  have hle := grownCap_le_maxLen w (0 + k) 0 e (by unfold maxLen; omega)
  obtain ⟨cap, hcap⟩ : ∃ c, c = grownCap w (0 + k) 0 e := ⟨_, rfl⟩
  rw [← hcap] at hrun hge hle
  refine wpList_plain hgd fun K hK => ?_
  unfold Oper.wp
  simp [execOp, ho, resolve, invoke, builtin, hs, hx, hrun, Result.andThen]
  refine hK _ _ (h cap _ (by omega) (by unfold maxLen at hle; omega) ?_ ?_ (by simp))
  · refine World.ownsRow_made w.drew _ cap (Nat.le_refl _) hle ?_
    simp [Builtin.zeroCells, hE.zs]
    rw [← Nat.add_mul]; congr 1; omega
  · exact ⟨rfl, rfl, rfl, by simp, fun j hj _ => Below.heap_alloc _ _ _ hj⟩
end
end Go.Proofs.YtmindblfbijaaaaDoor
namespace Go.Proofs.YtmindblfbijaaaaDoor
open Go.RowKit
/-- A slice of slices of bytes. -/
def BB (w : World) (v : Value) (ls : List (List UInt8)) : Prop :=
  ∃ vs : List Value, vs.length = ls.length ∧ Sl w v ls.length vs ∧ ∀ (i : Nat) (l : List UInt8), ls[i]? = some l → ∃ u, vs[i]? = some u ∧ Sl w u l.length (u8s l)
theorem BB.below {w w' : World} {v : Value} {ls : List (List UInt8)} (h : BB w v ls) (hb : Below w.heap.size w w') : BB w' v ls := by
  obtain ⟨vs, h1, h2, h3⟩ := h
  exact ⟨vs, h1, h2.below hb, fun i l hi => by obtain ⟨u, hu, hs⟩ := h3 i l hi; exact ⟨u, hu, hs.below hb⟩⟩
/-- A made row is owned, or the slice is nil. -/
def OwnEmpty (w w' : World) (e : Ending) : Prop := ∃ v, e = .returned v ∧ w'.ownsRow w.heap.size 5 1 v 0 [] ∧ Below w.heap.size w w'
set_option maxHeartbeats 400000 in
theorem grow_nil (n : Nat) (w : World) (hn : n ≤ 1000000) :
    Calls Tryd.prog 48 #[.slice none 0 0, .int .i64 n] w fun e w' => OwnEmpty w w' e := by
  by_cases h0 : n = 0
  · subst h0
    go_enter Tryd.func48, Tryd.ntmps48
    go_wp2
    go_ret
    exact ⟨_, rfl, World.ownsRow_nil _ _ _ _, Below.refl _ _⟩
  · have hp : 0 < n := by omega
    go_enter Tryd.func48, Tryd.ntmps48
    go_wp2_with (at_builtin; refine Hid.out ?_)
    refine stop ?_
    refine wpList_append_make_nil elU8 rfl _ _ 3 .i64 (by kernel_rfl) rfl n rfl rfl hp (by omega) (by omega) ?_
    intro cap w' h1 h2 hown hg hlt
    have H := Lib.hid hown; clear hown
    go_wp2
    go_ret
    exact ⟨_, rfl, H.out, (Below.refl _ _).grown hg (Nat.le_refl _) (by intro k hk; cases hk)⟩
def OwnRes (w : World) (ls : List (List UInt8)) (e : Ending) (w' : World) : Prop := ∃ v', e = .returned v' ∧ w'.ownsRow w.heap.size 5 1 v' ls.flatten.length (u8s ls.flatten) ∧ Below w.heap.size w w'
def total (ls : List (List UInt8)) : Nat := ls.flatten.length
theorem flatten_take (ls : List (List UInt8)) (k : Nat) (l : List UInt8) (h : ls[k]? = some l) : (ls.take (k + 1)).flatten = (ls.take k).flatten ++ l := by
  have hk := (List.getElem?_eq_some_iff.1 h).1
  rw [List.take_succ_eq_append_getElem hk, List.flatten_append]
  have := (List.getElem?_eq_some_iff.1 h).2
  simp [this]
theorem flatten_le (ls : List (List UInt8)) (k : Nat) : (ls.take k).flatten.length ≤ ls.flatten.length := by
  conv => rhs; rw [← List.take_append_drop k ls, List.flatten_append, List.length_append]
  omega
/-- The address of a slice that is not empty. -/
theorem sl_addr {w : World} {v : Value} {n : Nat} {cs : List Value} (h : Sl w v n cs) (hn : 0 < n) :
    ∃ b o cap, v = .slice (some ⟨b, o, none⟩) n cap ∧ n ≤ cap ∧ cap ≤ 9223372036854775807 ∧ ∀ (j : Nat) (u : Value), cs[j]? = some u → w.cell? ⟨b, o + j, none⟩ = some u := by
  obtain ⟨ao, cap, rfl, hle, hcap, hnil, hc⟩ := h
  cases ao with
  | none => have := hnil rfl; omega
  | some a =>
    obtain ⟨b, o, s⟩ := a
    obtain ⟨hs0, h⟩ := hc b o s rfl
    obtain rfl := hs0 (by omega)
    exact ⟨b, o, cap, rfl, hle, hcap, h⟩
theorem sl_lit {w : World} {v : Value} {n : Nat} {cs : List Value} (h : Sl w v n cs) : ∃ ao cap, v = .slice ao n cap := by
  obtain ⟨ao, cap, h, _⟩ := h; exact ⟨ao, cap, h⟩
set_option maxHeartbeats 400000 in
theorem concat_any (v : Value) (ls : List (List UInt8)) (w : World) (hB : BB w v ls) (hn : ls.flatten.length ≤ 1000000) (hn2 : ls.length ≤ 1000000) (h0 : 0 < ls.length) :
    Calls Tryd.prog 35 #[v] w fun e w' => ∃ v', e = .returned v' ∧ w'.ownsRow w.heap.size 5 1 v' ls.flatten.length (u8s ls.flatten) ∧ Below w.heap.size w w' := by
  obtain ⟨vs, hvs, hS, hel⟩ := hB
  obtain ⟨b, o, cap, rfl, hle, hcap, hcell⟩ := sl_addr hS h0
  clear hS
  obtain ⟨m, hm⟩ : ∃ m, m = ls.length := ⟨_, rfl⟩
  rw [← hm] at hle hn2 h0 ⊢
  have HC := Lib.hid hcell; clear hcell
  have HE := Lib.hid hel; clear hel
  have HV := Lib.hid hvs; clear hvs
  have HN := Lib.hid hn; clear hn
  have HM := Lib.hid hm; clear hm
  refine calls_ret (R := fun e w' => OwnRes w ls e w') ?_ (fun e w' h => h)
  go_enter Tryd.func35, Tryd.ntmps35
  go_wp2
  go_loop [3, 11] (fun s i => ∃ k : Nat, k ≤ m ∧ i = .int .i64 k ∧ s = .int .i64 ((ls.take k).flatten.length : Nat)) (fun _ i => m - (intOf i).toNat)
  case atStart => exact ⟨0, by omega, rfl, rfl⟩
  case round =>
    obtain ⟨k, hk, rfl, rfl⟩ := hrel
    have hfk := Nat.le_trans (flatten_le ls k) HN.out
    by_cases hlt : k < m
    · obtain ⟨l, hl⟩ : ∃ l, ls[k]? = some l := ⟨ls[k]'(by have := HM.out; omega), by simp⟩
      obtain ⟨u, hu, hS⟩ := HE.out k l hl
      obtain ⟨ao1, cap1, rfl⟩ := sl_lit hS
      have hc := HC.out k _ hu
      have hft := Nat.le_trans (flatten_le ls (k + 1)) HN.out
      have hfe := flatten_take ls k l hl
      have hle2 : (ls.take k).flatten.length + l.length ≤ 1000000 := by rw [hfe, List.length_append] at hft; exact hft
      have HF : Hid ((ls.take (k + 1)).flatten.length = (ls.take k).flatten.length + l.length) := by rw [hfe, List.length_append]; exact rfl
      clear hu hS hl hft hfe
      obtain ⟨p, hp⟩ : ∃ p, p = (ls.take k).flatten.length := ⟨_, rfl⟩
      rw [← hp] at hfk hle2 HF ⊢
      clear hp
      go_wp2
      go_round
      case rel => exact ⟨k + 1, by omega, by go_num, by rw [HF.out]; go_num⟩
      case measure => simp [intOf]; omega
    · have hkm : k = m := by omega
      have e : (ls.take k).flatten = ls.flatten := by rw [hkm, HM.out, List.take_length]
      rw [e] at hfk ⊢
      clear e hkm
      obtain ⟨p, hp⟩ : ∃ p, p = ls.flatten.length := ⟨_, rfl⟩
      rw [← hp] at hfk ⊢
      have HP := Lib.hid hp; clear hp
      go_wp2_with (go_at_call 48; refine (grow_nil p _ hfk).mono ?_; rintro e w1 ⟨v1, rfl, hown1, hb1⟩)
      have hs1 := hb1.size
      go_loopw [6, 27] (fun v i wr => ∃ k : Nat, k ≤ m ∧ i = .int .i64 k ∧ wr.ownsRow w.heap.size 5 1 v (ls.take k).flatten.length (u8s (ls.take k).flatten) ∧ Below w.heap.size w wr) (fun _ i _ => m - (intOf i).toNat)
      case atStart => exact ⟨0, by omega, rfl, hown1, hb1⟩
      case round =>
        clear hown1 hb1 hs1 hlt
        obtain ⟨k, hk, rfl, hown, hB⟩ := hrel
        have hfk := Nat.le_trans (flatten_le ls k) HN.out
        by_cases hlt : k < m
        · obtain ⟨l, hl⟩ : ∃ l, ls[k]? = some l := ⟨ls[k]'(by have := HM.out; omega), by simp⟩
          obtain ⟨u, hu, hS⟩ := HE.out k l hl
          obtain ⟨ao1, cap1, rfl⟩ := sl_lit hS
          have hc := cellK hB (HC.out k _ hu)
          have hft := Nat.le_trans (flatten_le ls (k + 1)) HN.out
          have hfe := flatten_take ls k l hl
          have hle2 : (ls.take k).flatten.length + l.length ≤ 1000000 := by rw [hfe, List.length_append] at hft; exact hft
          have HS := Lib.hid (hS.below hB); clear hS
          have HF := Lib.hid hfe; clear hfe hu hl hft
          have hsz := hB.size
          have HO := Lib.hid hown; clear hown
          have HB := Lib.hid hB; clear hB
          go_wp2_with (at_builtin; refine Hid.out ?_)
          refine stop ?_
          refine wpList_append_sl elU8 rfl _ _ rfl w.heap.size _ _ _ rfl HO.out _ l.length (u8s l) rfl HS.out (by rw [u8s_length, Nat.mul_one]) (u8s_one _) (by omega) (by omega) hsz ?_
          intro v' w' hown' hg'
          have HO' : Hid (w'.ownsRow w.heap.size 5 1 v' (ls.take (k + 1)).flatten.length (u8s (ls.take (k + 1)).flatten)) := by
            rw [HF.out, List.length_append, show u8s ((ls.take k).flatten ++ l) = u8s (ls.take k).flatten ++ u8s l by simp [u8s]]
            exact hown'
          have HB' : Hid (Below w.heap.size w w') := stop (HB.out.grown hg' hsz (fun q hq => (HO.out.lt q hq).1))
          clear hown' hg'
          go_wp2
          go_roundw
          case rel => exact ⟨k + 1, by omega, by go_num, HO'.out, HB'.out⟩
          case measure => simp [intOf]; omega
        · have hkm : k = m := by omega
          have e : (ls.take k).flatten = ls.flatten := by rw [hkm, HM.out, List.take_length]
          rw [e] at hown
          clear e hkm hfk
          have HO := Lib.hid hown; clear hown
          have HB := Lib.hid hB; clear hB
          go_wp2
          go_ret
          exact ⟨_, rfl, HO.out, HB.out⟩
end Go.Proofs.YtmindblfbijaaaaDoor
namespace Go.Proofs.YtmindblfbijaaaaDoor
open Go.RowKit
/-- The worlds in which all that lay below B lies as it lay. -/
def BelowT (B : Nat) (w : World) : Type := { w' : World // Below B w w' }
instance (B : Nat) (w : World) : Nonempty (BelowT B w) := ⟨⟨w, Below.refl B w⟩⟩
theorem wp_region_qb {P : Program} {id : Nat} {Q : Exit → Act → World → Prop} {a : Act} {w : World} {l : List Oper} (hm : P.follows .mixedOrders = true) (hB : Region.lexB .any l.toArray = true)
    (h : wpQuiet P l.toArray (fun w' => ∃ d : BelowT w.heap.size w, w' = d.1) (fun a' => ∀ w', Below w.heap.size w w' → Q .normal a' w') l a) : (Code.region id l.toArray true).wp P Q a w := by
  refine wp_region_quiet (C := fun w' => ∃ d : BelowT w.heap.size w, w' = d.1) hm hB ⟨⟨w.drew, (Below.refl _ _).drew⟩, rfl⟩ ?_
  have e : (fun a' => ∀ w', (∃ d : BelowT w.heap.size w, w' = d.1) → Q .normal a' w') = (fun a' => ∀ w', Below w.heap.size w w' → Q .normal a' w') := by
    funext a'
    apply propext
    constructor
    · intro h w' hb; exact h w' ⟨⟨w', hb⟩, rfl⟩
    · rintro h w' ⟨d, rfl⟩; exact h d.1 d.2
  rw [e]; simpa using h
theorem arr_sl {W : World} {g : Nat} {vs : List Value} (h : Arr W g vs) (hn : vs.length ≤ 1000000) : Sl W (.slice (some ⟨g, 0, none⟩) vs.length vs.length) vs.length vs :=
  ⟨_, _, rfl, Nat.le_refl _, by omega, fun e => (by cases e), fun b o s e => by
    simp only [Option.some.injEq, Addr.mk.injEq] at e
    obtain ⟨rfl, rfl, rfl⟩ := e
    exact ⟨fun _ => rfl, fun j u hj => by rw [Nat.zero_add]; exact h.cell hj⟩⟩
theorem bb_two {W : World} {g : Nat} {v1 v2 : Value} {l1 l2 : List UInt8} (hA : Arr W g [v1, v2]) (h1 : Sl W v1 l1.length (u8s l1)) (h2 : Sl W v2 l2.length (u8s l2)) : BB W (.slice (some ⟨g, 0, none⟩) 2 2) [l1, l2] :=
  ⟨[v1, v2], rfl, arr_sl hA (by simp), fun i l hi => by
    match i with
    | 0 => simp at hi; subst hi; exact ⟨v1, rfl, h1⟩
    | 1 => simp at hi; subst hi; exact ⟨v2, rfl, h2⟩
    | n + 2 => simp at hi⟩
theorem bb_three {W : World} {g : Nat} {v1 v2 v3 : Value} {l1 l2 l3 : List UInt8} (hA : Arr W g [v1, v2, v3]) (h1 : Sl W v1 l1.length (u8s l1)) (h2 : Sl W v2 l2.length (u8s l2)) (h3 : Sl W v3 l3.length (u8s l3)) : BB W (.slice (some ⟨g, 0, none⟩) 3 3) [l1, l2, l3] :=
  ⟨[v1, v2, v3], rfl, arr_sl hA (by simp), fun i l hi => by
    match i with
    | 0 => simp at hi; subst hi; exact ⟨v1, rfl, h1⟩
    | 1 => simp at hi; subst hi; exact ⟨v2, rfl, h2⟩
    | 2 => simp at hi; subst hi; exact ⟨v3, rfl, h3⟩
    | n + 3 => simp at hi⟩
theorem Glob.below' {w w' : World} (h : Glob w) (hb : Below w.heap.size w w') : Glob w' := h.below hb h.size
/-- The contract of the hash of bytes, from a slice that is owned. -/
theorem sum_own (v : Value) (l : List UInt8) (w : World) (base : Nat) (hg : Glob w) (hO : w.ownsRow base 5 1 v l.length (u8s l)) (hn : l.length ≤ 1000000) :
    Calls Tryd.prog 12 #[v] w fun e w' => e = .returned (.agg (u8s (Sha.sum l)).toArray) ∧ Below w.heap.size w w' := sum_any v l w hg (own_sl hO) hn
theorem sum_length (l : List UInt8) : (u8s (Sha.sum l)).length = 32 := by rw [u8s_length]; exact Sha.out_length _
set_option maxHeartbeats 400000 in
theorem leaf_any (v : Value) (l : List UInt8) (w : World) (hg : Glob w) (hS : Sl w v l.length (u8s l)) (hn : l.length ≤ 900000) :
    Calls Tryd.prog 14 #[v] w fun e w' => e = .returned (.agg (u8s (Sha.sum (0 :: l))).toArray) ∧ Below w.heap.size w w' := by
  obtain ⟨ao, cap, rfl⟩ := sl_lit hS
  have HS := Lib.hid hS; clear hS
  have HG := Lib.hid hg; clear hg
  go_enter Tryd.func14, Tryd.ntmps14
  go_wp2_with (go_at_call 35; refine Hid.out ?_)
  refine stop ?_
  have e0 : u8s [0] = [.int .u8 0] := rfl
  refine (concat_any _ [[0], l] _ (bb_two (Arr.newAt (by simp) [_, _] _) ?_ ?_) (by simp; omega) (by simp) (by simp)).mono ?_
  · exact arr_sl (vs := u8s [0]) ((Arr.newAt (by simp) [_] _).alloc _) (by simp [u8s])
  · exact HS.out.below (((Below.refl _ _).alloc (Nat.le_refl _) _).alloc (by simp) _ |>.alloc (by simp; omega) _)
  rintro e w1 ⟨v1, rfl, hown, hb⟩
  have ef : [[0], l].flatten = 0 :: l := by simp
  rw [ef] at hown
  have hB1 : Below w.heap.size w w1 := ((((Below.refl _ _).alloc (Nat.le_refl _) _).alloc (by simp) _).alloc (by simp; omega) _).trans (hb.mono (by simp; omega))
  have hA1 : Arr w1 w.heap.size (u8s (List.replicate 32 0)) := (((Arr.new w (u8s (List.replicate 32 0)) _).alloc _).alloc _).below' hb
  have HA := Lib.hid hA1
  have HB := Lib.hid hB1
  have HO := Lib.hid hown
  clear hb hown hA1 hB1
  go_wp2_with (go_at_call 12; refine Hid.out ?_)
  refine stop ?_
  refine (sum_own _ (0 :: l) _ _ (HG.out.below' HB.out) HO.out (by simp; omega)).mono ?_
  rintro e w2 ⟨rfl, hb2⟩
  have HA2 := Lib.hid (HA.out.below' hb2)
  have HB2 := Lib.hid (HB.out.trans (hb2.mono HB.out.size))
  go_wp2_with (refine wpList_store_cells rfl rfl _ _ _ rfl _ 0 rfl (u8s (Sha.sum (0 :: l))) rfl (by rw [sum_length]; exact agg32.2) (u8s_one _) _ HA2.out (by rw [sum_length, u8s_length, List.length_replicate]; decide) ?_; intro w3 hA3 hG3)
  rw [lay_whole _ _ (by rw [sum_length, u8s_length, List.length_replicate])] at hA3
  exact bodyPost_cells rfl rfl _ rfl _ hA3 (by rw [sum_length]; exact agg32) ⟨rfl, HB2.out.grown hG3 HB2.out.size (by intro k hk; cases hk; exact Nat.le_refl _)⟩
set_option maxHeartbeats 400000 in
theorem pair_any (l1 l2 : List UInt8) (w : World) (hg : Glob w) (h1 : l1.length = 32) (h2 : l2.length = 32) :
    Calls Tryd.prog 16 #[.agg (u8s l1).toArray, .agg (u8s l2).toArray] w fun e w' => e = .returned (.agg (u8s (Sha.sum (1 :: (l1 ++ l2)))).toArray) ∧ Below w.heap.size w w' := by
  have HG := Lib.hid hg; clear hg
  have H1 := Lib.hid h1; clear h1
  have H2 := Lib.hid h2; clear h2
  go_enter Tryd.func16, Tryd.ntmps16
  go_wp2
  obtain ⟨W, hW⟩ : ∃ W, W = ((w.alloc (Obj.cells (u8s l1).toArray 28)).alloc (Obj.cells (u8s l2).toArray 28)).alloc (Obj.cells (u8s (List.replicate 32 0)).toArray 28) := ⟨_, rfl⟩
  have hB0 : Below w.heap.size w W := by rw [hW]; exact (((Below.refl _ _).alloc (Nat.le_refl _) _).alloc (by simp) _).alloc (by simp; omega) _
  have hA1 : Arr W w.heap.size (u8s l1) := by rw [hW]; exact ((Arr.new w _ _).alloc _).alloc _
  have hA2 : Arr W (w.heap.size + 1) (u8s l2) := by rw [hW]; exact (Arr.newAt (by simp) _ _).alloc _
  have hA4 : Arr W (w.heap.size + 2) (u8s (List.replicate 32 0)) := by rw [hW]; exact Arr.newAt (by simp) _ _
  change Code.wp _ _ _ _ (((w.alloc (Obj.cells (u8s l1).toArray 28)).alloc (Obj.cells (u8s l2).toArray 28)).alloc (Obj.cells (u8s (List.replicate 32 0)).toArray 28))
  rw [← hW]
  clear hW
  have HB := Lib.hid hB0; clear hB0
  have HA1 := Lib.hid hA1; clear hA1
  have HA2 := Lib.hid hA2; clear hA2
  have HA4 := Lib.hid hA4; clear hA4
  refine wp_region_par_tail (E := fun A B => Below A.heap.size A B)
    (G := fun j ρ W' => match j with
      | 0 => ∃ b, ρ 0 = .slice (some ⟨b, 0, none⟩) 1 1 ∧ Arr W' b [.int .u8 1]
      | 1 => ρ 1 = .slice (some ⟨w.heap.size, 0, none⟩) 32 32
      | 2 => ρ 2 = .slice (some ⟨w.heap.size + 1, 0, none⟩) 32 32
      | _ => True) 3 (by kernel_rfl) (by kernel_rfl) (Below.refl _ _).drew (fun _ => Below.refl _ _) (fun _ _ _ h k => h.trans (k.mono h.size)) ?hG ?hloc ?hstep ?hend
  case hG =>
    intro j ρ w1 w2 hg he
    match j with
    | 0 => obtain ⟨b, h1, h2⟩ := hg; exact ⟨b, h1, h2.below' he⟩
    | 1 | 2 => exact hg
    | n + 3 => trivial
  case hloc =>
    refine allFrom_array ⟨?_, ?_, ?_, ?_, ?_, ?_, ?_, trivial⟩ <;> intro ρ ρ' w h0 he hg
    · obtain ⟨b, h1, h2⟩ := hg; exact ⟨b, h0.symm.trans h1, h2⟩
    · exact h0.symm.trans hg
    · exact h0.symm.trans hg
    all_goals trivial
  case hstep =>
    refine allFrom_array ⟨?_, ?_, ?_, trivial⟩ <;> intro a w1 hE hR hd <;> refine wanted_none rfl ?_
    · go_simp
      exact ⟨_, rfl, (Below.refl _ _).alloc (Nat.le_refl _) _, _, rfl, Arr.new w1 [_] _⟩
    · have h2 : a.tmps[2]?.getD undef = .pointer (some ⟨w.heap.size, 0, none⟩) := hR.evalD rfl rfl
      go_simp
      exact ⟨_, rfl, Below.refl _ _, rfl⟩
    · have h2 : a.tmps[3]?.getD undef = .pointer (some ⟨w.heap.size + 1, 0, none⟩) := hR.evalD rfl rfl
      go_simp
      exact ⟨_, rfl, Below.refl _ _, rfl⟩
  case hend =>
    intro vs hvs w1 hE hall
    obtain ⟨v0, v1, v2, rfl⟩ : ∃ v0 v1 v2, vs = [v0, v1, v2] := by
      match vs, hvs with
      | [v0, v1, v2], _ => exact ⟨v0, v1, v2, rfl⟩
    obtain ⟨b, e0, hb1⟩ := hall 0 (by omega)
    have e1 := hall 1 (by omega)
    have e2 := hall 2 (by omega)
    simp only [List.getD_cons_zero, List.getD_cons_succ] at e0 e1 e2
    subst e0 e1 e2
    have HB1 := Lib.hid (HB.out.trans (hE.mono HB.out.size))
    have K1 := Lib.hid (HA1.out.below' hE)
    have K2 := Lib.hid (HA2.out.below' hE)
    have K4 := Lib.hid (HA4.out.below' hE)
    have KB := Lib.hid hb1
    clear hall hvs hE hb1 HB HA1 HA2 HA4 W
    simp only [putAll, List.take_succ_cons, List.take_zero, List.drop_succ_cons, List.drop_zero, List.map_cons, List.map_nil, List.zip_cons_cons, List.zip_nil_right, Act.put, List.setIfInBounds_toArray, List.set_cons_zero, List.set_cons_succ]
    go_wp2_with (go_at_call 35; refine Hid.out ?_)
    refine stop ?_
    have n1 := H1.out
    have n2 := H2.out
    have s1 : Sl w1 (.slice (some ⟨w.heap.size, 0, none⟩) l1.length l1.length) l1.length (u8s l1) := by
      have := arr_sl K1.out (by rw [u8s_length]; omega); rwa [u8s_length] at this
    have s2 : Sl w1 (.slice (some ⟨w.heap.size + 1, 0, none⟩) l2.length l2.length) l2.length (u8s l2) := by
      have := arr_sl K2.out (by rw [u8s_length]; omega); rwa [u8s_length] at this
    rw [n1] at s1
    rw [n2] at s2
    refine (concat_any _ [[1], l1, l2] _ (bb_three (Arr.newAt rfl [_, _, _] _) ?_ ?_ ?_) (by simp; omega) (by simp) (by simp)).mono ?_
    · exact arr_sl (vs := u8s [1]) (KB.out.alloc _) (by simp [u8s])
    · rw [n1]; exact s1.below ((Below.refl _ _).alloc (Nat.le_refl _) _)
    · rw [n2]; exact s2.below ((Below.refl _ _).alloc (Nat.le_refl _) _)
    rintro e w2 ⟨v1, rfl, hown, hb⟩
    have ef : [[1], l1, l2].flatten = 1 :: (l1 ++ l2) := by simp
    rw [ef] at hown
    have hb' : Below w1.heap.size w1 w2 := ((Below.refl _ _).alloc (Nat.le_refl _) _).trans (hb.mono (by simp))
    have HB2 := Lib.hid (HB1.out.trans (hb'.mono HB1.out.size))
    have HA := Lib.hid (K4.out.below' hb')
    have HO := Lib.hid hown
    clear hb hb' hown n1 n2 s1 s2 ef
    go_wp2_with (go_at_call 12; refine Hid.out ?_)
    refine stop ?_
    refine (sum_own _ (1 :: (l1 ++ l2)) _ _ (HG.out.below' HB2.out) HO.out (by have := H1.out; have := H2.out; simp; omega)).mono ?_
    rintro e w3 ⟨rfl, hb2⟩
    have HA2 := Lib.hid (HA.out.below' hb2)
    have HB3 := Lib.hid (HB2.out.trans (hb2.mono HB2.out.size))
    go_wp2_with (refine wpList_store_cells rfl rfl _ _ _ rfl _ 0 rfl (u8s (Sha.sum (1 :: (l1 ++ l2)))) rfl (by rw [sum_length]; exact agg32.2) (u8s_one _) _ HA2.out (by rw [sum_length, u8s_length, List.length_replicate]; decide) ?_; intro w4 hA3 hG3)
    rw [lay_whole _ _ (by rw [sum_length, u8s_length, List.length_replicate])] at hA3
    exact bodyPost_cells rfl rfl _ rfl _ hA3 (by rw [sum_length]; exact agg32) ⟨rfl, HB3.out.grown hG3 HB3.out.size (by intro k hk; cases hk; omega)⟩
end Go.Proofs.YtmindblfbijaaaaDoor
namespace Go.Proofs.YtmindblfbijaaaaDoor
namespace Sha
theorem sum_len (l : List UInt8) : (sum l).length = 32 := out_length _
def leaf (b : List UInt8) : List UInt8 := sum (0 :: b)
def pair (a b : List UInt8) : List UInt8 := sum (1 :: (a ++ b))
theorem leaf_len (b : List UInt8) : (leaf b).length = 32 := sum_len _
theorem pair_len (a b : List UInt8) : (pair a b).length = 32 := sum_len _
/-- The greatest power of 2 less than n (n from 2 on). -/
def cut (n : Nat) : Nat := 2 ^ Nat.log2 (n - 1)
theorem cut_pos (n : Nat) : 0 < cut n := Nat.pow_pos (by omega)
theorem cut_lt {n : Nat} (h : 2 ≤ n) : cut n < n := by
  have := Nat.log2_self_le (n := n - 1) (by omega)
  unfold cut; omega
theorem cut_ge {n : Nat} (h : 2 ≤ n) : n ≤ 2 * cut n := by
  have := Nat.lt_log2_self (n := n - 1)
  unfold cut
  rw [Nat.pow_succ] at this; omega
theorem pow_unique {a b n : Nat} (h1 : 2 ^ a < n) (h2 : n ≤ 2 ^ (a + 1)) (h3 : 2 ^ b < n) (h4 : n ≤ 2 ^ (b + 1)) : a = b := by
  have key : ∀ x y : Nat, 2 ^ x < n → n ≤ 2 ^ (y + 1) → x ≤ y := by
    intro x y hx hy
    rcases Nat.lt_or_ge y x with h | h
    · have : 2 ^ (y + 1) ≤ 2 ^ x := Nat.pow_le_pow_right (by omega) h
      omega
    · exact h
  exact Nat.le_antisymm (key a b h1 h4) (key b a h3 h2)
theorem cut_eq {n k : Nat} (h : 2 ≤ n) (h1 : 2 ^ k < n) (h2 : n ≤ 2 * 2 ^ k) : cut n = 2 ^ k := by
  have a1 := cut_lt h
  have a2 := cut_ge h
  unfold cut at *
  rw [pow_unique (a := Nat.log2 (n - 1)) (b := k) (n := n) a1 (by rw [Nat.pow_succ]; omega) h1 (by rw [Nat.pow_succ]; omega)]
theorem cut_bits {n : Nat} (h : 2 ≤ n) (h2 : n < 2 ^ 64) : 1 ≤ Lib.bitLen (n - 1) ∧ Lib.bitLen (n - 1) ≤ 64 ∧ cut n = 2 ^ (Lib.bitLen (n - 1) - 1) := by
  obtain ⟨a, b, c⟩ := Lib.bitLenAux_bounds 64 (n - 1) (by omega) (by omega)
  have hle : Lib.bitLen (n - 1) ≤ 64 := Lib.bitLen_le _ 64 (by omega) (by omega)
  refine ⟨a, hle, ?_⟩
  change 1 ≤ Lib.bitLen (n - 1) at a
  change 2 ^ (Lib.bitLen (n - 1) - 1) ≤ n - 1 at b
  change n - 1 < 2 ^ Lib.bitLen (n - 1) at c
  have e : Lib.bitLen (n - 1) = (Lib.bitLen (n - 1) - 1) + 1 := by omega
  rw [e, Nat.pow_succ] at c
  exact cut_eq h (by omega) (by omega)
/-- The root of a list of elements. -/
def root (l : List (List UInt8)) : List UInt8 :=
  if h : 2 ≤ l.length then pair (root (l.take (cut l.length))) (root (l.drop (cut l.length))) else match l with
    | [] => sum []
    | b :: _ => leaf b
termination_by l.length
decreasing_by
  · have := cut_lt h; rw [List.length_take]; omega
  · have := cut_pos l.length; rw [List.length_drop]; omega
theorem root_cut {l : List (List UInt8)} (h : 2 ≤ l.length) : root l = pair (root (l.take (cut l.length))) (root (l.drop (cut l.length))) := by
  rw [root, dif_pos h]
theorem root_nil : root [] = sum [] := by rw [root, dif_neg (by simp)]
theorem root_one (b : List UInt8) : root [b] = leaf b := by rw [root, dif_neg (by simp)]
theorem root_len (l : List (List UInt8)) : (root l).length = 32 := by
  rw [root]
  split
  · exact pair_len _ _
  · split <;> first | exact sum_len _ | exact leaf_len _
/-- The proof for the element i, from the top of the tree down. -/
def path (l : List (List UInt8)) (i : Nat) : List (List UInt8) :=
  if h : 2 ≤ l.length then
    if i < cut l.length then root (l.drop (cut l.length)) :: path (l.take (cut l.length)) i
    else root (l.take (cut l.length)) :: path (l.drop (cut l.length)) (i - cut l.length)
  else []
termination_by l.length
decreasing_by
  · have := cut_lt h; rw [List.length_take]; omega
  · have := cut_pos l.length; rw [List.length_drop]; omega
def proof (l : List (List UInt8)) (i : Nat) : List (List UInt8) := (path l i).reverse
theorem path_low {l : List (List UInt8)} {i : Nat} (h : 2 ≤ l.length) (hi : i < cut l.length) : path l i = root (l.drop (cut l.length)) :: path (l.take (cut l.length)) i := by
  rw [path, dif_pos h, if_pos hi]
theorem path_high {l : List (List UInt8)} {i : Nat} (h : 2 ≤ l.length) (hi : cut l.length ≤ i) : path l i = root (l.take (cut l.length)) :: path (l.drop (cut l.length)) (i - cut l.length) := by
  rw [path, dif_pos h, if_neg (by omega)]
theorem path_one {l : List (List UInt8)} (i : Nat) (h : l.length < 2) : path l i = [] := by
  rw [path, dif_neg (by omega)]
/-- What the hashes of a proof (from the top down) make of the leaf of the element i of n. -/
def climb (b : List UInt8) : List (List UInt8) → Nat → Nat → List UInt8 × Bool
  | [], n, _ => (leaf b, n == 1)
  | q :: r, n, i =>
    if n = 1 then (leaf b, false)
    else if i < cut n then (pair (climb b r (cut n) i).1 q, (climb b r (cut n) i).2)
    else (pair q (climb b r (n - cut n) (i - cut n)).1, (climb b r (n - cut n) (i - cut n)).2)
theorem climb_len (b : List UInt8) (p : List (List UInt8)) (n i : Nat) : (climb b p n i).1.length = 32 := by
  cases p with
  | nil => exact leaf_len _
  | cons q r =>
    simp only [climb]
    split
    · exact leaf_len _
    · split <;> exact pair_len _ _
/-- Whether a proof fits. -/
def check (root : List UInt8) (n i : Int) (b : List UInt8) (p : List (List UInt8)) : Bool :=
  if i < 0 ∨ n ≤ i then false else (climb b p.reverse n.toNat i.toNat).2 && decide ((climb b p.reverse n.toNat i.toNat).1 = root)
theorem climb_path (b : List UInt8) : ∀ (k : Nat) (l : List (List UInt8)) (i : Nat), l.length = k → l[i]? = some b → climb b (path l i) l.length i = (root l, true) := by
  intro k
  induction k using Nat.strongRecOn with
  | _ k ih =>
    intro l i hk hi
    have hil : i < l.length := (List.getElem?_eq_some_iff.1 hi).1
    rcases Nat.lt_or_ge l.length 2 with h | h
    · match l, h, hil with
      | [x], _, hil =>
        have : i = 0 := by simpa using hil
        subst this
        simp at hi; subst hi
        rw [path_one _ (by simp), root_one]
        rfl
    · have c1 := cut_lt h
      have c2 := cut_pos l.length
      rw [root_cut h]
      rcases Nat.lt_or_ge i (cut l.length) with hlt | hge
      · rw [path_low h hlt]
        have := ih (l.take (cut l.length)).length (by rw [List.length_take]; omega) (l.take (cut l.length)) i rfl (by rw [List.getElem?_take_of_lt hlt]; exact hi)
        rw [List.length_take, Nat.min_eq_left (Nat.le_of_lt c1)] at this
        simp only [climb]
        rw [if_neg (by omega), if_pos hlt, this]
      · rw [path_high h hge]
        have := ih (l.drop (cut l.length)).length (by rw [List.length_drop]; omega) (l.drop (cut l.length)) (i - cut l.length) rfl (by rw [List.getElem?_drop, show cut l.length + (i - cut l.length) = i by omega]; exact hi)
        rw [List.length_drop] at this
        simp only [climb]
        rw [if_neg (by omega), if_neg (by omega), this]
theorem check_proof {l : List (List UInt8)} {i : Nat} {b : List UInt8} (h : l[i]? = some b) : check (root l) l.length i b (proof l i) = true := by
  have hil : i < l.length := (List.getElem?_eq_some_iff.1 h).1
  unfold check proof
  rw [if_neg (by omega), List.reverse_reverse, Int.toNat_natCast, Int.toNat_natCast, climb_path b _ l i rfl h]
  simp
end Sha
end Go.Proofs.YtmindblfbijaaaaDoor
namespace Go.Proofs.YtmindblfbijaaaaDoor
open Go.RowKit
set_option maxHeartbeats 400000 in
theorem cut_any (n : Nat) (w : World) (h2 : 2 ≤ n) (hn : n ≤ 4294967296) :
    Calls Tryd.prog 38 #[.int .i64 n] w fun e w' => e = .returned (.int .i64 (Sha.cut n)) ∧ w = w' := by
  obtain ⟨b1, b2, hc⟩ := Sha.cut_bits h2 (by omega)
  have cl := Sha.cut_lt h2
  obtain ⟨L, hL⟩ : ∃ L, L = Lib.bitLen (n - 1) := ⟨_, rfl⟩
  rw [← hL] at b1 b2 hc
  go_enter Tryd.func38, Tryd.ntmps38
  go_wp2_with (go_at_call 49; refine Hid.out ?_)
  refine stop ?_
  refine (Tryd.bits_Len _ w (by omega) (by omega)).mono ?_
  rintro e w1 ⟨rfl, rfl⟩
  have eL : (((n : Int) - 1).toNat) = n - 1 := by omega
  rw [eL, ← hL]
  clear hL eL
  have HC := Lib.hid hc; clear hc
  go_wp2
  have e := HC.out
  have hw : wrap64 (2 ^ (L - 1)) = ((Sha.cut n : Nat) : Int) := by
    rw [e]
    have : ((2 ^ (L - 1) : Nat) : Int) = 2 ^ (L - 1) := by exact Int.natCast_pow 2 (L - 1)
    rw [← this, ← e]
    exact IntWalk.wrap64_in _ (by omega)
  rw [hw]
  exact bodyPost_ret (results_tmp rfl _ _ _) rfl ⟨rfl, rfl⟩
set_option maxHeartbeats 400000 in
theorem refCut_any (n : Nat) (w : World) (h2 : 2 ≤ n) (hn : n ≤ 4294967296) :
    Calls Tryd.prog 27 #[.int .i64 n] w fun e w' => e = .returned (.int .i64 (Sha.cut n)) ∧ w = w' := by
  obtain ⟨N, hN⟩ : ∃ N, N = Sha.cut n := ⟨_, rfl⟩
  have cl := Sha.cut_lt h2
  have cg := Sha.cut_ge h2
  rw [← hN] at cl cg ⊢
  have HN := Lib.hid hN; clear hN
  go_enter Tryd.func27, Tryd.ntmps27
  go_wp2
  go_loop [3] (fun m => ∃ k : Nat, 2 ^ k ≤ N ∧ m = .int .i64 ((2 ^ k : Nat) : Int)) (fun m => n - (intOf m).toNat)
  case atStart => exact ⟨0, by omega, rfl⟩
  case round =>
    obtain ⟨k, hk, rfl⟩ := hrel
    have hp : 2 ^ (k + 1) = 2 * 2 ^ k := by rw [Nat.pow_succ]; omega
    by_cases hlt : 2 * 2 ^ k < n
    · have hk2 : 2 ^ (k + 1) ≤ N := by
        rw [HN.out]
        have e : n - 1 ≠ 0 := by omega
        exact Nat.pow_le_pow_right (by omega) ((Nat.le_log2 e).2 (by omega))
      have HP := Lib.hid hp; clear hp
      obtain ⟨m, hm⟩ : ∃ m, m = 2 ^ k := ⟨_, rfl⟩
      rw [← hm] at hlt hk HP ⊢
      have hm0 : 0 < m := by rw [hm]; exact Nat.pow_pos (by omega)
      have HK := Lib.hid hk2; clear hk2
      clear hm
      go_wp2
      go_round
      case rel => exact ⟨k + 1, HK.out, by rw [HP.out]; go_num⟩
      case measure => simp [intOf]; omega
    · have hm0 : 2 ^ k = N := by rw [HN.out]; exact (Sha.cut_eq (k := k) h2 (by have := cl; omega) (by omega)).symm
      rw [hm0] at hlt ⊢
      clear hp hm0
      go_wp2
      exact bodyPost_ret (results_tmp rfl _ _ _) rfl ⟨rfl, rfl⟩
end Go.Proofs.YtmindblfbijaaaaDoor
namespace Go.Proofs.YtmindblfbijaaaaDoor
open Go.RowKit
section
variable {P : Program} {C : World → Prop} {Q : Exit → Act → World → Prop}
theorem putAll_append (l1 l2 : List (Option Tmp × Value)) : ∀ a, putAll a (l1 ++ l2) = putAll (putAll a l1) l2 := by
  induction l1 with
  | nil => intro a; rfl
  | cons x r ih => intro a; obtain ⟨d, v⟩ := x; simp only [List.cons_append, putAll, ih]
theorem putAll_size (l : List (Option Tmp × Value)) : ∀ a : Act, (putAll a l).tmps.size = a.tmps.size := by
  induction l with
  | nil => intro a; rfl
  | cons x r ih => intro a; obtain ⟨d, v⟩ := x; rw [putAll, ih]; cases d <;> simp [Act.put]
theorem putAll_other (s : Tmp) (l : List (Option Tmp × Value)) : ∀ a : Act, (∀ v, (some s, v) ∉ l) → (putAll a l).tmps[s]? = a.tmps[s]? := by
  induction l with
  | nil => intro a _; rfl
  | cons x r ih =>
    intro a h
    obtain ⟨d, v⟩ := x
    rw [putAll, ih _ (fun v' => by have := h v'; simp at this; exact this.2)]
    cases d with
    | none => rfl
    | some d =>
      have hne : d ≠ s := fun e => h v (by subst e; simp)
      simp [Act.put, Array.getElem?_setIfInBounds_ne hne]
theorem putAll_same (s : Tmp) (v : Value) (l : List (Option Tmp × Value)) : ∀ a : Act, s < a.tmps.size → (some s, v) ∈ l → (∀ v', (some s, v') ∈ l → v' = v) → (putAll a l).tmps[s]? = some v := by
  induction l with
  | nil => intro a _ h; cases h
  | cons x r ih =>
    intro a hs hm hu
    obtain ⟨d, u⟩ := x
    rw [putAll]
    by_cases h : ∃ v', (some s, v') ∈ r
    · obtain ⟨v', h'⟩ := h
      have e := hu v' (List.mem_cons_of_mem _ h')
      subst e
      exact ih _ (by cases d <;> simpa [Act.put] using hs) h' (fun v'' h'' => hu v'' (List.mem_cons_of_mem _ h''))
    · have hn : ∀ v', (some s, v') ∉ r := fun v' h' => h ⟨v', h'⟩
      rw [putAll_other s r _ hn]
      rcases List.mem_cons.1 hm with h' | h'
      · simp only [Prod.mk.injEq] at h'
        obtain ⟨rfl, rfl⟩ := h'
        simp [Act.put, hs]
      · exact absurd h' (hn v)
theorem putAll_congr (ds : List (Option Tmp)) : ∀ (vs us : List Value) (a : Act), vs.length = ds.length → us.length = ds.length → (∀ (j : Nat) (s : Tmp), ds[j]? = some (some s) → vs.getD j undef = us.getD j undef) → putAll a (ds.zip vs) = putAll a (ds.zip us) := by
  induction ds with
  | nil => intro vs us a _ _ _; simp
  | cons d r ih =>
    intro vs us a h1 h2 h
    match vs, us with
    | [], _ => simp at h1
    | _ :: _, [] => simp at h2
    | v :: vs, u :: us =>
      simp only [List.zip_cons_cons, putAll]
      have e : a.put d v = a.put d u := by
        cases d with
        | none => rfl
        | some s => have := h 0 s rfl; simp only [List.getD_cons_zero] at this; rw [this]
      rw [e]
      exact ih vs us _ (by simpa using h1) (by simpa using h2) (fun j s hj => by simpa using h (j + 1) s (by simpa using hj))
theorem wpQuiet_vals {ops : Array Oper} {K : Act → Prop} : ∀ (l : List Oper) (a : Act), wpQuiet P ops C K l a →
    ∃ vs : List Value, vs.length = l.length ∧ K (putAll a ((l.map (·.dst)).zip vs)) ∧ ∀ (j : Nat) (o : Oper), l[j]? = some o → YieldsIn P ops C o (vs.getD j undef) (putAll a (((l.map (·.dst)).zip vs).take j)) := by
  intro l
  induction l with
  | nil => intro a h; exact ⟨[], rfl, h, fun j o h => by simp at h⟩
  | cons o r ih =>
    intro a h
    obtain ⟨v, hy, hr⟩ : ∃ v, YieldsIn P ops C o v a ∧ wpQuiet P ops C K r (a.put o.dst v) := by
      unfold wpQuiet at h
      by_cases hw : Region.wanted o (yielded ops a.tmps) = true
      · rw [if_pos hw] at h
        obtain ⟨v, h1, h2⟩ := h
        exact ⟨v, .inl ⟨hw, h1⟩, h2⟩
      · rw [if_neg hw] at h
        exact ⟨undef, .inr ⟨by simpa using hw, rfl⟩, h⟩
    obtain ⟨vs, hl, hk, hall⟩ := ih _ hr
    refine ⟨v :: vs, by simp [hl], hk, fun j oj hj => ?_⟩
    cases j with
    | zero => simp at hj; subst hj; exact hy
    | succ j => simpa [putAll] using hall j oj (by simpa using hj)
def quietTailB (l : List Oper) (size n : Nat) : Bool :=
  parTailB l size n && (l.take n).all fun o => (match o.op with | .select _ _ => false | _ => true) && (o.looksAt l.toArray).all fun s =>
    l.zipIdx.all fun (oj, j) => oj.dst != some s || o.after.any fun e => Region.binds .any e && e.on == j
theorem yielded_congr {ops : Array Oper} {t1 t2 : Array Value} (g : Nat) (h : ∀ s, (ops[g]?).bind (·.dst) = some s → t1[s]?.getD undef = t2[s]?.getD undef) : yielded ops t1 g = yielded ops t2 g := by
  unfold yielded
  cases hg : (ops[g]?).bind (·.dst) with
  | none => rfl
  | some s =>
    have := h s hg
    simp only [Option.bind_some]
    cases h1 : t1[s]? with
    | none => cases h2 : t2[s]? with
      | none => rfl
      | some v2 => rw [h1, h2] at this; simp only [Option.getD_none, Option.getD_some] at this; subst this; rfl
    | some v1 => cases h2 : t2[s]? with
      | none => rw [h1, h2] at this; simp only [Option.getD_none, Option.getD_some] at this; subst this; rfl
      | some v2 => rw [h1, h2] at this; simp only [Option.getD_some] at this; subst this; rfl
theorem wp_region_quiet_tail {id : Nat} {l : List Oper} {a0 : Act} {w0 : World} (n : Nat) (hm : P.follows .mixedOrders = true) (hB : quietTailB l a0.tmps.size n = true) (hC0 : C w0) (hC : C w0.drew)
    (h : wpQuiet P l.toArray C (fun a' => ∀ w', C w' → wpList P l.toArray Q (l.drop n) a' w') (l.take n) a0) : (Code.region id l.toArray true).wp P Q a0 w0 := by
  simp only [quietTailB, Bool.and_eq_true] at hB
  obtain ⟨hPT, hlk⟩ := hB
  have hPT' := hPT
  simp only [parTailB, parB, Bool.and_eq_true, decide_eq_true_eq] at hPT'
  obtain ⟨⟨⟨⟨⟨⟨hB1, hB2⟩, hB3⟩, hn⟩, _⟩, _⟩, _⟩ := hPT'
  obtain ⟨vs, hvl, hK, hY⟩ := wpQuiet_vals _ _ h
  have htn : (l.take n).length = n := by simp; omega
  rw [htn] at hvl
  let val : Nat → Value := fun j => ((l[j]?).bind (·.dst)).elim undef fun _ => vs.getD j undef
  refine wp_region_par_tail (E := fun A B => C A → C B) (G := fun j ρ _ => j < n → ρ j = val j) n hm hPT (fun _ => hC) (fun _ h => h) (fun _ _ _ h k g => k (h g)) (fun _ _ _ _ h _ => h) (fun j o _ ρ ρ' w e _ hg hj => by rw [← e]; exact hg hj) ?_ ?_
  · intro i o hi a w hE hR hdep
    have hin : i < n := by
      have := (Array.getElem?_eq_some_iff.1 hi).1
      simp at this; omega
    have hiT : (l.take n)[i]? = some o := by simpa using hi
    have hil : l[i]? = some o := by rw [List.getElem?_take_of_lt hin] at hiT; exact hiT
    have hlo := List.all_eq_true.1 hlk o (List.mem_iff_getElem?.2 ⟨i, hiT⟩)
    simp only [Bool.and_eq_true] at hlo
    obtain ⟨hsel, hlook⟩ := hlo
    have hsel' : ∀ cs b, o.op ≠ .select cs b := fun cs b e => by rw [e] at hsel; cases hsel
    have hback : ∀ e ∈ o.after, Region.binds .any e = true → e.on < i := by
      intro e he hb
      have hz : (o, i) ∈ l.zipIdx := by rw [List.mem_zipIdx_iff_getElem?]; exact hil
      have := List.all_eq_true.1 hB3 (o, i) hz
      simp only [Array.all_eq_true_iff_forall_mem] at this
      have := this e he
      simpa [hb] using this
    have agree : ∀ s ∈ o.looksAt l.toArray, a.tmps[s]?.getD undef = (putAll a0 ((((l.take n).map (·.dst)).zip vs).take i)).tmps[s]?.getD undef := by
      intro s hs
      by_cases hex : ∃ (j : Nat) (oj : Oper), l[j]? = some oj ∧ oj.dst = some s
      · obtain ⟨j, oj, hj, hd⟩ := hex
        have h1 := List.all_eq_true.1 hlook s hs
        have hz : (oj, j) ∈ l.zipIdx := by rw [List.mem_zipIdx_iff_getElem?]; exact hj
        have h2 := List.all_eq_true.1 h1 (oj, j) hz
        simp only [hd, bne_self_eq_false, Bool.false_or] at h2
        obtain ⟨e, he, hb⟩ := Array.any_eq_true'.1 h2
        simp only [Bool.and_eq_true, beq_iff_eq] at hb
        have hji : j < i := by rw [← hb.2]; exact hback e he hb.1
        have hg := hdep e he hb.1 (by rw [hb.2]; omega)
        rw [hb.2] at hg
        have hval : val j = vs.getD j undef := by simp [val, hj, hd]
        rw [hval] at hg
        have hrho : rho l.toArray a j = a.tmps[s]?.getD undef := by
          simp [rho, hj, valOf, hd, Array.getD_eq_getD_getElem?]
        rw [← hrho, hg]
        have hsz : s < a0.tmps.size := by
          have := List.all_eq_true.1 hB1 s (List.mem_filterMap.2 ⟨oj, List.mem_iff_getElem?.2 ⟨j, hj⟩, hd⟩)
          simpa using this
        have hmem : ∀ (k : Nat) (v : Value), ((((l.take n).map (·.dst)).zip vs).take i)[k]? = some (some s, v) ↔ (k < i ∧ k = j ∧ v = vs.getD j undef) := by
          intro k v
          constructor
          · intro hk
            have hki : k < i := by
              have := (List.getElem?_eq_some_iff.1 hk).1
              rw [List.length_take] at this; omega
            rw [List.getElem?_take_of_lt hki, List.getElem?_zip_eq_some] at hk
            obtain ⟨hk1, hk2⟩ := hk
            rw [List.getElem?_map, List.getElem?_take_of_lt (by omega)] at hk1
            cases hok : l[k]? with
            | none => rw [hok] at hk1; cases hk1
            | some ok =>
              rw [hok] at hk1
              simp at hk1
              have hkj : k = j := nodup_dst l hB2 k j ok oj s hok hj hk1 hd
              subst hkj
              exact ⟨hki, rfl, by simp [hk2]⟩
          · rintro ⟨hki, rfl, rfl⟩
            rw [List.getElem?_take_of_lt hki, List.getElem?_zip_eq_some]
            refine ⟨by rw [List.getElem?_map, List.getElem?_take_of_lt (by omega), hj]; simp [hd], ?_⟩
            have : k < vs.length := by omega
            simp [this]
        rw [putAll_same s (vs.getD j undef) _ a0 hsz (List.mem_iff_getElem?.2 ⟨j, (hmem j _).2 ⟨hji, rfl, rfl⟩⟩) (fun v' hv' => by
          obtain ⟨k, hk⟩ := List.mem_iff_getElem?.1 hv'
          exact ((hmem k v').1 hk).2.2)]
        rfl
      · have hno : ∀ (j : Nat) (oj : Oper), (l.take n).toArray[j]? = some oj → oj.dst ≠ some s := fun j oj hj hd => by
          have h1 : (l.take n)[j]? = some oj := by simpa using hj
          have hjn : j < n := by
            have := (List.getElem?_eq_some_iff.1 h1).1
            rw [List.length_take] at this; omega
          rw [List.getElem?_take_of_lt hjn] at h1
          exact hex ⟨j, oj, h1, hd⟩
        rw [hR s hno, putAll_other s _ a0 (fun v hv => by
          have hv1 := List.mem_of_mem_take hv
          have := (List.of_mem_zip hv1).1
          obtain ⟨oj, hoj, hd⟩ := List.mem_map.1 this
          obtain ⟨j, hj⟩ := List.mem_iff_getElem?.1 hoj
          exact hno j oj (by simpa using hj) hd)]
    have hy := hY i o hiT
    have hy' : YieldsIn P l.toArray C o (vs.getD i undef) a := by
      refine hy.of_same (execOp_congr o hsel' fun x hx => ?_) ?_
      · cases x with
        | tmp s =>
          have hs : s ∈ o.looksAt l.toArray := List.mem_append_left _ (List.mem_filterMap.2 ⟨.tmp s, by simpa using hx, rfl⟩)
          have := agree s hs
          simpa [Act.eval] using this
        | _ => rfl
      · unfold Region.wanted
        cases hg : o.guard with
        | none => rfl
        | some gw =>
          obtain ⟨g, want⟩ := gw
          have : yielded l.toArray a.tmps g = yielded l.toArray (putAll a0 ((((l.take n).map (·.dst)).zip vs).take i)).tmps g :=
            yielded_congr g fun s hs => agree s (List.mem_append_right _ (by simp only [hg, Option.mem_toList]; exact hs))
          simp only [this]
    have hvi : ∀ v, ((o.dst.elim undef fun _ => v) = val i) ↔ (o.dst = none ∨ v = vs.getD i undef) := by
      intro v
      cases hd : o.dst with
      | none => simp [val, hil, hd]
      | some d => simp [val, hil, hd]
    have hCw := hE hC0
    split
    · rename_i hw
      rcases hy' with ⟨_, hq⟩ | ⟨hw', _⟩
      · refine Oper.wp_of_quiet (C := C) (K := fun a' => a' = a.put o.dst (vs.getD i undef)) hCw ?_ ⟨_, hq, rfl⟩
        rintro a' w' hC' rfl
        exact ⟨_, rfl, fun _ => hC', fun _ => by simp only [upd]; exact (if_pos trivial).trans ((hvi _).2 (.inr rfl))⟩
      · rw [hw] at hw'; cases hw'
    · rename_i hw
      rcases hy' with ⟨hw', _⟩ | ⟨_, hu⟩
      · exact absurd hw' hw
      · intro _
        simp only [upd]
        refine (if_pos trivial).trans ((Eq.trans ?_ ((hvi undef).2 (.inr hu.symm))))
        cases o.dst <;> rfl
  · intro us hus w hE hall
    have e : putAll a0 (((l.take n).map (·.dst)).zip us) = putAll a0 (((l.take n).map (·.dst)).zip vs) := by
      refine putAll_congr _ us vs a0 (by simp [hus]; omega) (by simp [hvl]; omega) ?_
      intro j s hj
      have hjn : j < n := by
        have := (List.getElem?_eq_some_iff.1 hj).1
        simp at this; omega
      have hg := hall j hjn hjn
      rw [List.getElem?_map, List.getElem?_take_of_lt hjn] at hj
      cases hok : l[j]? with
      | none => rw [hok] at hj; cases hj
      | some ok =>
        rw [hok] at hj
        simp at hj
        simpa [val, hok, hj] using hg
    rw [e]
    exact hK w (hE hC0)
end
end Go.Proofs.YtmindblfbijaaaaDoor
namespace Go.Proofs.YtmindblfbijaaaaDoor
open Go.RowKit
theorem BelowT.size {B : Nat} {w : World} (d : BelowT B w) (h : B ≤ w.heap.size) : B ≤ d.1.heap.size := Nat.le_trans h d.2.size
/-- A call in a region, in the class of worlds in which all below lies as it lay. -/
theorem calls_bt {P : Program} {f : FuncId} {args : Array Value} {B : Nat} {w : World} {v : Value} (hB : B ≤ w.heap.size) (d : BelowT B w)
    (h : Calls P f args d.1 fun e w' => e = .returned v ∧ Below d.1.heap.size d.1 w') : Calls P f args d.1 fun e w' => e = .returned v ∧ ∃ d' : BelowT B w, w' = d'.1 :=
  h.mono fun _ _ ⟨he, hb⟩ => ⟨he, ⟨_, d.2.trans (hb.mono (d.size hB))⟩, rfl⟩
theorem calls_bt_same {P : Program} {f : FuncId} {args : Array Value} {B : Nat} {w : World} {v : Value} (d : BelowT B w)
    (h : Calls P f args d.1 fun e w' => e = .returned v ∧ d.1 = w') : Calls P f args d.1 fun e w' => e = .returned v ∧ ∃ d' : BelowT B w, w' = d'.1 :=
  h.mono fun _ _ ⟨he, hb⟩ => ⟨he, d, hb.symm⟩
theorem wp_region_qbt {P : Program} {id : Nat} {Q : Exit → Act → World → Prop} {a : Act} {w : World} {l : List Oper} (n : Nat) (hm : P.follows .mixedOrders = true) (hB : quietTailB l a.tmps.size n = true)
    (h : wpQuiet P l.toArray (fun w' => ∃ d : BelowT w.heap.size w, w' = d.1) (fun a' => ∀ w', Below w.heap.size w w' → wpList P l.toArray Q (l.drop n) a' w') (l.take n) a) : (Code.region id l.toArray true).wp P Q a w := by
  refine wp_region_quiet_tail (C := fun w' => ∃ d : BelowT w.heap.size w, w' = d.1) n hm hB ⟨⟨w, Below.refl _ _⟩, rfl⟩ ⟨⟨w.drew, (Below.refl _ _).drew⟩, rfl⟩ ?_
  have e : (fun a' => ∀ w', (∃ d : BelowT w.heap.size w, w' = d.1) → wpList P l.toArray Q (l.drop n) a' w') = (fun a' => ∀ w', Below w.heap.size w w' → wpList P l.toArray Q (l.drop n) a' w') := by
    funext a'
    apply propext
    constructor
    · intro h w' hb; exact h w' ⟨⟨w', hb⟩, rfl⟩
    · rintro h w' ⟨d, rfl⟩; exact h d.1 d.2
  rw [e]; exact h
theorem sl_take {w : World} {ao : Option Addr} {n cap : Nat} {cs : List Value} (h : Sl w (.slice ao n cap) n cs) (m k : Nat) (hm : m ≤ n) : Sl w (.slice ao m cap) m (cs.take k) := by
  obtain ⟨ao', cap', e, h2, h3, h4, h5⟩ := h
  simp only [Value.slice.injEq, true_and] at e
  obtain ⟨rfl, rfl⟩ := e
  refine ⟨ao, cap, rfl, by omega, h3, h4, fun b o s e => ⟨(h5 b o s e).1, fun j u hj => (h5 b o s e).2 j u ?_⟩⟩
  by_cases hjk : j < k
  · rwa [List.getElem?_take_of_lt hjk] at hj
  · rw [List.getElem?_eq_none (by rw [List.length_take]; omega)] at hj; cases hj
theorem sl_drop {w : World} {b o n cap : Nat} {cs : List Value} (h : Sl w (.slice (some ⟨b, o, none⟩) n cap) n cs) (m k : Nat) (hm : m ≤ n) : Sl w (.slice (some ⟨b, o + k, none⟩) (n - m) (cap - m)) (n - m) (cs.drop k) := by
  obtain ⟨ao', cap', e, h2, h3, h4, h5⟩ := h
  simp only [Value.slice.injEq, true_and] at e
  obtain ⟨rfl, rfl⟩ := e
  refine ⟨_, _, rfl, by omega, by omega, fun e => (by cases e), fun b' o' s e => ?_⟩
  simp only [Option.some.injEq, Addr.mk.injEq] at e
  obtain ⟨rfl, rfl, rfl⟩ := e
  refine ⟨fun _ => rfl, fun j u hj => ?_⟩
  rw [List.getElem?_drop] at hj
  have := (h5 _ _ _ rfl).2 _ u hj
  rwa [← Nat.add_assoc] at this
theorem bb_take {w : World} {ao : Option Addr} {cap : Nat} {ls : List (List UInt8)} (h : BB w (.slice ao ls.length cap) ls) (m : Nat) (hm : m ≤ ls.length) : BB w (.slice ao m cap) (ls.take m) := by
  obtain ⟨vs, h1, h2, h3⟩ := h
  refine ⟨vs.take m, by simp [h1], ?_, fun i l hi => ?_⟩
  · rw [List.length_take, Nat.min_eq_left hm]; exact sl_take h2 m m hm
  · have him : i < m := by
      have := (List.getElem?_eq_some_iff.1 hi).1
      rw [List.length_take] at this; omega
    rw [List.getElem?_take_of_lt him] at hi ⊢
    exact h3 i l hi
theorem bb_drop {w : World} {b o cap : Nat} {ls : List (List UInt8)} (h : BB w (.slice (some ⟨b, o, none⟩) ls.length cap) ls) (m : Nat) (hm : m ≤ ls.length) : BB w (.slice (some ⟨b, o + m, none⟩) (ls.length - m) (cap - m)) (ls.drop m) := by
  obtain ⟨vs, h1, h2, h3⟩ := h
  refine ⟨vs.drop m, by simp [h1], ?_, fun i l hi => ?_⟩
  · rw [List.length_drop]; exact sl_drop h2 m m hm
  · rw [List.getElem?_drop] at hi ⊢
    exact h3 _ l hi
/-- The sizes for which the walks are shown. -/
def Fit (ls : List (List UInt8)) : Prop := ls.length ≤ 1000000 ∧ ∀ l ∈ ls, l.length ≤ 900000
theorem Fit.take {ls : List (List UInt8)} (h : Fit ls) (m : Nat) : Fit (ls.take m) := ⟨by rw [List.length_take]; have := h.1; omega, fun l hl => h.2 l (List.mem_of_mem_take hl)⟩
theorem Fit.drop {ls : List (List UInt8)} (h : Fit ls) (m : Nat) : Fit (ls.drop m) := ⟨by rw [List.length_drop]; have := h.1; omega, fun l hl => h.2 l (List.mem_of_mem_drop hl)⟩
theorem root_length (ls : List (List UInt8)) : (u8s (Sha.root ls)).length = 32 := by rw [u8s_length, Sha.root_len]
set_option maxHeartbeats 400000 in
theorem root_any : ∀ (k : Nat) (ls : List (List UInt8)) (v : Value) (w : World), ls.length = k → Glob w → BB w v ls → Fit ls →
    Calls Tryd.prog 18 #[v] w fun e w' => e = .returned (.agg (u8s (Sha.root ls)).toArray) ∧ Below w.heap.size w w' := by
  intro k
  induction k using Nat.strongRecOn with
  | _ k ih =>
  intro ls v w hk hg hBB hF
  rcases Nat.lt_or_ge ls.length 2 with h2 | h2
  · match ls, h2 with
    | [], _ =>
      obtain ⟨vs, hvs, hS, hel⟩ := hBB
      obtain ⟨ao, cap, rfl⟩ := sl_lit hS
      have HG := Lib.hid hg; clear hg
      clear hS hel hvs ih hk
      simp only [List.length_nil]
      go_enter Tryd.func18, Tryd.ntmps18
      go_wp2_with (go_at_call 12; refine Hid.out ?_)
      refine stop ?_
      refine (sum_any (.slice none 0 0) [] _ ?_ ⟨none, 0, rfl, Nat.le_refl _, by omega, fun _ => rfl, fun b o s e => by cases e⟩ (by simp)).mono ?_
      · exact HG.out.below' ((Below.refl _ _).alloc (Nat.le_refl _) _)
      rintro e w1 ⟨rfl, hb⟩
      rw [← Sha.root_nil]
      have HA := Lib.hid ((Arr.new w (u8s (List.replicate 32 0)) _).below' hb)
      have HB := Lib.hid (((Below.refl w.heap.size w).alloc (Nat.le_refl _) _).trans (hb.mono (by simp)))
      clear hb
      go_wp2_with (refine wpList_store_cells rfl rfl _ _ _ rfl _ 0 rfl (u8s (Sha.root [])) rfl (by rw [root_length]; exact agg32.2) (u8s_one _) _ HA.out (by rw [root_length, u8s_length, List.length_replicate]; decide) ?_; intro w4 hA3 hG3)
      rw [lay_whole _ _ (by rw [root_length, u8s_length, List.length_replicate])] at hA3
      exact bodyPost_cells rfl rfl _ rfl _ hA3 (by rw [root_length]; exact agg32) ⟨rfl, HB.out.grown hG3 HB.out.size (by intro k hk; cases hk; omega)⟩
    | [x], _ =>
      obtain ⟨vs, hvs, hS, hel⟩ := hBB
      obtain ⟨b, o, cap, rfl, hle, hcap, hcell⟩ := sl_addr hS (by simp)
      obtain ⟨u, hu, hSx⟩ := hel 0 x rfl
      have hc := hcell 0 u hu
      obtain ⟨ao, cap1, rfl⟩ := sl_lit hSx
      have hxn : x.length ≤ 900000 := hF.2 x (by simp)
      have HG := Lib.hid hg; clear hg
      have HS := Lib.hid hSx; clear hSx
      have HC := Lib.hid hc
      clear hel hvs ih hk hcell hu hF hS hc
      simp only [List.length_cons, List.length_nil, Nat.zero_add, Nat.add_zero] at hle ⊢
      have hc2 : ∀ o', (w.alloc o').cell? ⟨b, o, none⟩ = some (.slice ao x.length cap1) := fun o' => by
        have := HC.out
        simp only [Nat.add_zero] at this
        exact (((Below.refl w.heap.size w).alloc (Nat.le_refl _) o').cell (block_lt_of_cell this)).trans this
      go_enter Tryd.func18, Tryd.ntmps18
      go_wp2_with (go_at_call 14; refine Hid.out ?_)
      refine stop ?_
      clear hc2
      refine (leaf_any _ x _ ?_ (HS.out.below ((Below.refl _ _).alloc (Nat.le_refl _) _)) hxn).mono ?_
      · exact HG.out.below' ((Below.refl _ _).alloc (Nat.le_refl _) _)
      rintro e w1 ⟨rfl, hb⟩
      have er : Sha.sum (0 :: x) = Sha.root [x] := (Sha.root_one x).symm
      rw [er]
      have HA := Lib.hid ((Arr.new w (u8s (List.replicate 32 0)) _).below' hb)
      have HB := Lib.hid (((Below.refl w.heap.size w).alloc (Nat.le_refl _) _).trans (hb.mono (by simp)))
      clear hb er
      go_wp2_with (refine wpList_store_cells rfl rfl _ _ _ rfl _ 0 rfl (u8s (Sha.root [x])) rfl (by rw [root_length]; exact agg32.2) (u8s_one _) _ HA.out (by rw [root_length, u8s_length, List.length_replicate]; decide) ?_; intro w4 hA3 hG3)
      rw [lay_whole _ _ (by rw [root_length, u8s_length, List.length_replicate])] at hA3
      exact bodyPost_cells rfl rfl _ rfl _ hA3 (by rw [root_length]; exact agg32) ⟨rfl, HB.out.grown hG3 HB.out.size (by intro k hk; cases hk; omega)⟩
  · obtain ⟨b, o, cap, rfl, hle, hcap⟩ : ∃ b o cap, v = .slice (some ⟨b, o, none⟩) ls.length cap ∧ ls.length ≤ cap ∧ cap ≤ 9223372036854775807 := by
      obtain ⟨vs, hvs, hS, hel⟩ := hBB
      obtain ⟨b, o, cap, rfl, hle, hcap, hcell⟩ := sl_addr hS (by omega)
      exact ⟨b, o, cap, rfl, hle, hcap⟩
    have hn := hF.1
    have c1 := Sha.cut_lt h2
    have c0 := Sha.cut_pos ls.length
    have HT := Lib.hid (fun d : BelowT (w.alloc (Obj.cells (u8s (List.replicate 32 0)).toArray 28)).heap.size (w.alloc (Obj.cells (u8s (List.replicate 32 0)).toArray 28)) =>
      calls_bt (Nat.le_refl _) d (ih (ls.take (Sha.cut ls.length)).length (by rw [List.length_take]; omega) (ls.take (Sha.cut ls.length)) (.slice (some ⟨b, o, none⟩) (Sha.cut ls.length) cap) d.1 rfl
        ((hg.below' ((Below.refl _ _).alloc (Nat.le_refl _) _)).below' d.2) ((bb_take hBB _ (by omega)).below (((Below.refl _ _).alloc (Nat.le_refl _) _).trans (d.2.mono (by simp)))) (hF.take _)))
    have HD := Lib.hid (fun d : BelowT (w.alloc (Obj.cells (u8s (List.replicate 32 0)).toArray 28)).heap.size (w.alloc (Obj.cells (u8s (List.replicate 32 0)).toArray 28)) =>
      calls_bt (Nat.le_refl _) d (ih (ls.drop (Sha.cut ls.length)).length (by rw [List.length_drop]; omega) (ls.drop (Sha.cut ls.length)) (.slice (some ⟨b, o + Sha.cut ls.length, none⟩) (ls.length - Sha.cut ls.length) (cap - Sha.cut ls.length)) d.1 rfl
        ((hg.below' ((Below.refl _ _).alloc (Nat.le_refl _) _)).below' d.2) ((bb_drop hBB _ (by omega)).below (((Below.refl _ _).alloc (Nat.le_refl _) _).trans (d.2.mono (by simp)))) (hF.drop _)))
    have HR := Lib.hid (Sha.root_cut h2)
    have HG := Lib.hid hg
    clear ih hBB hF hk hg
    obtain ⟨n, hN⟩ : ∃ n, n = ls.length := ⟨_, rfl⟩
    obtain ⟨m, hM⟩ : ∃ m, m = Sha.cut n := ⟨_, rfl⟩
    rw [← hN, ← hM] at c0 c1 HT HD HR
    rw [← hN] at h2 hn hle ⊢
    have HM := Lib.hid hM
    clear hN hM
    go_enter Tryd.func18, Tryd.ntmps18
    go_wp2_with (go_at_call 38; refine Hid.out ?_)
    refine stop ?_
    refine (cut_any n _ h2 (by omega)).mono ?_
    rintro e w1 ⟨rfl, rfl⟩
    rw [← HM.out]
    go_wp2
    refine wp_region_qbt 8 (by kernel_rfl) (by kernel_rfl) ?_
    simp only [List.take_succ_cons, List.take_zero, List.drop_succ_cons, List.drop_zero]
    go_big_quiet_step (fail)
    go_big_quiet_step (fail)
    go_big_quiet_step (fail)
    go_big_quiet_step (exact HT.out _)
    go_big_quiet_step (fail)
    go_big_quiet_step (fail)
    go_big_quiet_step (fail)
    go_big_quiet_step (exact HD.out _)
    refine wpQuiet_nil ?_
    intro w2 hb2
    have hb2' : Below (w.alloc (Obj.cells (u8s (List.replicate 32 0)).toArray 28)).heap.size (w.alloc (Obj.cells (u8s (List.replicate 32 0)).toArray 28)) w2 := hb2
    have HA := Lib.hid ((Arr.new w (u8s (List.replicate 32 0)) _).below' hb2')
    have HB := Lib.hid (((Below.refl w.heap.size w).alloc (Nat.le_refl _) _).trans (hb2'.mono (by simp)))
    clear hb2 hb2' HT HD
    go_wp2_with (go_at_call 16; refine Hid.out ?_)
    refine stop ?_
    refine (pair_any _ _ _ (HG.out.below' HB.out) (Sha.root_len _) (Sha.root_len _)).mono ?_
    rintro e w3 ⟨rfl, hb3⟩
    have er : Sha.sum (1 :: (Sha.root (ls.take m) ++ Sha.root (ls.drop m))) = Sha.root ls := HR.out.symm
    rw [er]
    have HA2 := Lib.hid (HA.out.below' hb3)
    have HB2 := Lib.hid (HB.out.trans (hb3.mono HB.out.size))
    clear hb3 er
    go_wp2_with (refine wpList_store_cells rfl rfl _ _ _ rfl _ 0 rfl (u8s (Sha.root ls)) rfl (by rw [root_length]; exact agg32.2) (u8s_one _) _ HA2.out (by rw [root_length, u8s_length, List.length_replicate]; decide) ?_; intro w4 hA3 hG3)
    rw [lay_whole _ _ (by rw [root_length, u8s_length, List.length_replicate])] at hA3
    exact bodyPost_cells rfl rfl _ rfl _ hA3 (by rw [root_length]; exact agg32) ⟨rfl, HB2.out.grown hG3 HB2.out.size (by intro k hk; cases hk; omega)⟩
end Go.Proofs.YtmindblfbijaaaaDoor
namespace Go.Proofs.YtmindblfbijaaaaDoor
open Go.RowKit
/-- The cells of a list of hashes. -/
def sums (l : List (List UInt8)) : List Value := (l.map u8s).flatten
/-- A list of hashes. -/
def Len32 (l : List (List UInt8)) : Prop := ∀ x ∈ l, x.length = 32
theorem Len32.get {l : List (List UInt8)} (h : Len32 l) {k : Nat} (hk : k < l.length) : (l.getD k []).length = 32 := by
  have : l.getD k [] = l[k] := by simp [hk]
  rw [this]; exact h _ (List.getElem_mem hk)
theorem Len32.set {l : List (List UInt8)} (h : Len32 l) {x : List UInt8} (hx : x.length = 32) (k : Nat) : Len32 (l.set k x) := by
  intro y hy
  rcases List.mem_or_eq_of_mem_set hy with h' | h'
  · exact h y h'
  · rw [h']; exact hx
theorem Len32.append {l m : List (List UInt8)} (h : Len32 l) (k : Len32 m) : Len32 (l ++ m) := by
  intro x hx; rcases List.mem_append.1 hx with h' | h'
  · exact h x h'
  · exact k x h'
theorem Len32.reverse {l : List (List UInt8)} (h : Len32 l) : Len32 l.reverse := fun x hx => h x (by simpa using hx)
theorem Len32.take {l : List (List UInt8)} (h : Len32 l) (k : Nat) : Len32 (l.take k) := fun x hx => h x (List.mem_of_mem_take hx)
theorem Len32.drop {l : List (List UInt8)} (h : Len32 l) (k : Nat) : Len32 (l.drop k) := fun x hx => h x (List.mem_of_mem_drop hx)
theorem sums_nil : sums [] = [] := rfl
theorem sums_cons (x : List UInt8) (l : List (List UInt8)) : sums (x :: l) = u8s x ++ sums l := by simp [sums]
theorem sums_append (l m : List (List UInt8)) : sums (l ++ m) = sums l ++ sums m := by simp [sums]
theorem sums_one (x : List UInt8) : sums [x] = u8s x := by simp [sums]
theorem sums_snoc (l : List (List UInt8)) (x : List UInt8) : sums (l ++ [x]) = sums l ++ u8s x := by simp [sums]
theorem sums_length {l : List (List UInt8)} (h : Len32 l) : (sums l).length = l.length * 32 := by
  induction l with
  | nil => rfl
  | cons x r ih =>
    rw [sums_cons, List.length_append, u8s_length, h x (by simp), ih (fun y hy => h y (by simp [hy]))]
    simp [Nat.add_mul]; omega
theorem sums_get {l : List (List UInt8)} (h : Len32 l) (tail : List Value) {k : Nat} (hk : k < l.length) {j : Nat} {v : Value} (hj : (u8s (l.getD k []))[j]? = some v) : (sums l ++ tail)[k * 32 + j]? = some v := by
  induction l generalizing k with
  | nil => simp at hk
  | cons x r ih =>
    rw [sums_cons, List.append_assoc]
    have hx : (u8s x).length = 32 := by rw [u8s_length]; exact h x (by simp)
    cases k with
    | zero =>
      simp only [List.getD_cons_zero] at hj
      rw [Nat.zero_mul, Nat.zero_add, List.getElem?_append_left (List.getElem?_eq_some_iff.1 hj).1]; exact hj
    | succ k =>
      simp only [List.getD_cons_succ] at hj
      rw [List.getElem?_append_right (by omega), hx, show (k + 1) * 32 + j - 32 = k * 32 + j by omega]
      exact ih (fun y hy => h y (by simp [hy])) (by simpa using hk) hj
theorem sums_lay {l : List (List UInt8)} (h : Len32 l) (tail : List Value) {k : Nat} (hk : k < l.length) {x : List UInt8} (hx : x.length = 32) : lay (sums l ++ tail) (k * 32) (u8s x) = sums (l.set k x) ++ tail := by
  have hux : (u8s x).length = 32 := by rw [u8s_length]; exact hx
  have e1 : l = l.take k ++ [l.getD k []] ++ l.drop (k + 1) := by
    have : l.getD k [] = l[k] := by simp [hk]
    rw [this, List.append_assoc, List.singleton_append, List.getElem_cons_drop, List.take_append_drop]
  have e2 : l.set k x = l.take k ++ [x] ++ l.drop (k + 1) := by
    rw [List.set_eq_take_append_cons_drop, if_pos hk, List.append_assoc, List.singleton_append]
  have l1 : (sums (l.take k)).length = k * 32 := by rw [sums_length (h.take k), List.length_take, Nat.min_eq_left (by omega)]
  have l2 : (u8s (l.getD k [])).length = 32 := by rw [u8s_length]; exact h.get hk
  rw [e2]
  have e3 : sums l = sums (l.take k) ++ u8s (l.getD k []) ++ sums (l.drop (k + 1)) := by
    conv => lhs; rw [e1]
    rw [sums_append, sums_append, sums_one]
  rw [e3, sums_append, sums_append, sums_one]
  unfold lay
  have t1 : (sums (l.take k) ++ u8s (l.getD k []) ++ sums (l.drop (k + 1)) ++ tail).take (k * 32) = sums (l.take k) := by
    rw [List.append_assoc, List.append_assoc, List.take_append_of_le_length (by omega), List.take_of_length_le (by omega)]
  have t2 : (sums (l.take k) ++ u8s (l.getD k []) ++ sums (l.drop (k + 1)) ++ tail).drop (k * 32 + (u8s x).length) = sums (l.drop (k + 1)) ++ tail := by
    rw [hux, List.append_assoc, List.drop_append, List.length_append, l1, l2]
    rw [List.drop_of_length_le (by rw [List.length_append]; omega)]
    simp
  rw [t1, t2]
  simp [List.append_assoc]
/-- The list whose first k and last k elements have changed places. -/
def flip (l : List (List UInt8)) (k : Nat) : List (List UInt8) := (List.range l.length).map fun i => if i < k ∨ l.length ≤ i + k then l.getD (l.length - 1 - i) [] else l.getD i []
theorem flip_length (l : List (List UInt8)) (k : Nat) : (flip l k).length = l.length := by simp [flip]
theorem flip_get (l : List (List UInt8)) (k i : Nat) (hi : i < l.length) : (flip l k).getD i [] = if i < k ∨ l.length ≤ i + k then l.getD (l.length - 1 - i) [] else l.getD i [] := by
  simp [flip, hi]
theorem list_ext_getD {l m : List (List UInt8)} (hl : l.length = m.length) (h : ∀ i, i < l.length → l.getD i [] = m.getD i []) : l = m := by
  apply List.ext_getElem hl
  intro i h1 h2
  have := h i h1
  simpa [h1, h2] using this
theorem flip_zero (l : List (List UInt8)) : flip l 0 = l := by
  refine list_ext_getD (flip_length _ _) fun i hi => ?_
  rw [flip_length] at hi
  rw [flip_get _ _ _ hi, if_neg (by omega)]
theorem getD_set (l : List (List UInt8)) (i j : Nat) (x : List UInt8) (hi : i < l.length) : (l.set i x).getD j [] = if j = i then x else l.getD j [] := by
  simp only [List.getD_eq_getElem?_getD, List.getElem?_set]
  by_cases h : i = j
  · subst h; simp [hi]
  · rw [if_neg h, if_neg (Ne.symm h)]
theorem flip_succ (l : List (List UInt8)) (k : Nat) (h : k + k + 1 < l.length) :
    flip l (k + 1) = ((flip l k).set k ((flip l k).getD (l.length - 1 - k) [])).set (l.length - 1 - k) ((flip l k).getD k []) := by
  refine list_ext_getD (by simp [flip_length]) fun i hi => ?_
  rw [flip_length] at hi
  rw [getD_set _ _ _ _ (by simp [flip_length]; omega), getD_set _ _ _ _ (by simp [flip_length]; omega)]
  rw [flip_get _ _ _ hi, flip_get _ _ _ hi, flip_get _ _ _ (by omega), flip_get _ _ _ (by omega)]
  by_cases h1 : i = l.length - 1 - k
  · rw [if_pos h1, if_pos (by omega), if_neg (by omega), h1]; congr 1; omega
  · rw [if_neg h1]
    by_cases h2 : i = k
    · rw [if_pos h2, if_pos (by omega), if_neg (by omega), h2]
    · rw [if_neg h2]
      by_cases h3 : i < k ∨ l.length ≤ i + k
      · rw [if_pos h3, if_pos (by omega)]
      · rw [if_neg h3, if_neg (by omega)]
theorem flip_end (l : List (List UInt8)) (k : Nat) (h : l.length ≤ k + k + 1) : flip l k = l.reverse := by
  refine list_ext_getD (by simp [flip_length]) fun i hi => ?_
  rw [flip_length] at hi
  rw [flip_get _ _ _ hi]
  have e : l.reverse.getD i [] = l.getD (l.length - 1 - i) [] := by
    simp only [List.getD_eq_getElem?_getD, List.getElem?_reverse hi]
  rw [e]
  split
  · rfl
  · rename_i h'; congr 1; omega
theorem flip_len32 {l : List (List UInt8)} (h : Len32 l) (k : Nat) : Len32 (flip l k) := by
  intro x hx
  simp only [flip, List.mem_map, List.mem_range] at hx
  obtain ⟨i, hi, rfl⟩ := hx
  split
  · exact h.get (by omega)
  · exact h.get hi
end Go.Proofs.YtmindblfbijaaaaDoor
namespace Go.Proofs.YtmindblfbijaaaaDoor
open Go.RowKit
section
variable {P : Program} {l : List Oper} {a0 : Act} {w0 : World} {Q : Exit → Act → World → Prop}
def valAt (l : List Oper) (vals : List Value) (j : Nat) : Value := ((l[j]?).bind (·.dst)).elim undef fun _ => vals.getD j undef
theorem wp_region_vals {id : Nat} (vals : List Value) (σ : (Nat → Bool) → World → Prop) (hm : P.follows .mixedOrders = true) (hB : parB l a0.tmps.size = true) (hlen : vals.length = l.length)
    (h0 : ∀ S, (∀ j, S j = false) → σ S w0.drew)
    (hstep : ∀ (i : Nat) (o : Oper), l.toArray[i]? = some o → ∀ (S S' : Nat → Bool) a w, S i = false → (∀ e ∈ o.after, Region.binds .any e = true → S e.on = true) →
      (∀ (j : Nat) (oj : Oper), l[j]? = some oj → S j = true → ∀ e ∈ oj.after, Region.binds .any e = true → S e.on = true) → σ S w → Rest l.toArray a0 a →
      (∀ e ∈ o.after, Region.binds .any e = true → ∀ (oe : Oper) (d : Tmp), l[e.on]? = some oe → oe.dst = some d → a.tmps[d]?.getD undef = vals.getD e.on undef) →
      (∀ j, S' j = if j = i then true else S j) →
      if Region.wanted o (yielded l.toArray a.tmps) then o.wp P a w (fun a' w' => a' = a.put o.dst (vals.getD i undef) ∧ σ S' w') Q else vals.getD i undef = undef ∧ σ S' w)
    (hend : ∀ S w, (∀ j, j < l.length → S j = true) → σ S w → Q .normal (putAll a0 ((l.map (·.dst)).zip vals)) w) :
    (Code.region id l.toArray true).wp P Q a0 w0 := by
  have hB' := hB
  simp only [parB, Bool.and_eq_true] at hB'
  obtain ⟨⟨hB1, hB2⟩, hB3⟩ := hB'
  have hsz : ∀ (i : Nat) (o : Oper) (d : Tmp), l.toArray[i]? = some o → o.dst = some d → d < a0.tmps.size := by
    intro i o d hi hd
    have := List.all_eq_true.1 hB1 d (List.mem_filterMap.2 ⟨o, List.mem_iff_getElem?.2 ⟨i, by simpa using hi⟩, hd⟩)
    simpa using this
  have hd : ∀ (i j : Nat) (oi oj : Oper) (d : Tmp), l.toArray[i]? = some oi → l.toArray[j]? = some oj → oi.dst = some d → oj.dst = some d → i = j :=
    fun i j oi oj d hi hj => nodup_dst l (of_decide_eq_true hB2) i j oi oj d (by simpa using hi) (by simpa using hj)
  have hbk : ∀ (i : Nat) (o : Oper), l.toArray[i]? = some o → ∀ e ∈ o.after, Region.binds .any e = true → e.on < i := by
    intro i o hi e he hb
    have hz : (o, i) ∈ l.zipIdx := by
      rw [List.mem_zipIdx_iff_getElem?]
      simpa using hi
    have := List.all_eq_true.1 hB3 (o, i) hz
    simp only [Array.all_eq_true_iff_forall_mem] at this
    have := this e he
    simpa [hb] using this
  let G : Nat → (Nat → Value) → World → Prop := fun j ρ _ => ρ j = valAt l vals j
  let E : World → World → Prop := fun _ _ => True
  have hG : ∀ j ρ w w', G j ρ w → E w w' → G j ρ w' := fun _ _ _ _ h _ => h
  have hloc : ∀ (j : Nat) (o : Oper), l.toArray[j]? = some o → ∀ ρ ρ' w, ρ j = ρ' j → (∀ e ∈ o.after, Region.binds .any e = true → ρ e.on = ρ' e.on) → G j ρ w → G j ρ' w :=
    fun j o _ ρ ρ' w h _ hg => h.symm.trans hg
  refine wp_region_any hm ?_
  have hsize : l.toArray.size = l.length := by simp
  have fin : ∀ (listed : Array Bool) (a : Act) (w : World), listed.size = l.toArray.size → ParInv l.toArray a0 w0 G E listed a w → σ (fun j => listed.getD j false) w → Region.ready .any l.toArray listed = [] → Q .normal a w := by
    intro listed a w hls inv hs hr
    have hall := all_listed hls hbk hr
    have := hend (fun j => listed.getD j false) w (fun j hj => hall j (by rw [hsize]; exact hj)) hs
    have e : putAll a0 ((l.map (·.dst)).zip vals) = a := by
      rw [← putAll_self l a0 a inv.size inv.defers (fun s hs => inv.rest s (fun j o ho _ => hs j o (by simpa using ho)))]
      refine putAll_congr _ _ _ a0 (by simp [hlen]) (by simp) ?_
      intro j s hj
      rw [List.getElem?_map] at hj
      cases hok : l[j]? with
      | none => rw [hok] at hj; cases hj
      | some ok =>
        rw [hok] at hj
        simp at hj
        have hjl : j < l.length := (List.getElem?_eq_some_iff.1 hok).1
        have hg := inv.got j ok (by simpa using hok) (hall j (by rw [hsize]; exact hjl))
        simp only [G, valAt, hok, Option.bind_some, hj, Option.elim_some] at hg
        rw [← hg]
        simp [rho, hok]
    rwa [e] at this
  have main : ∀ (fuel : Nat) (listed : Array Bool) (a : Act) (w : World), listed.size = l.toArray.size → (listed.toList.filter (fun b => !b)).length ≤ fuel → ParInv l.toArray a0 w0 G E listed a w → σ (fun j => listed.getD j false) w → wpAny P .any l.toArray Q fuel listed a w := by
    intro fuel
    induction fuel with
    | zero =>
      intro listed a w hls hf inv hs
      have hr : Region.ready .any l.toArray listed = [] := by
        cases h : Region.ready .any l.toArray listed with
        | nil => rfl
        | cons j r =>
          have hj : j ∈ Region.ready .any l.toArray listed := by rw [h]; simp
          obtain ⟨h0, o, ho, _⟩ := mem_ready.1 hj
          have hlt : j < listed.size := by rw [hls]; exact (Array.getElem?_eq_some_iff.1 ho).1
          have : false ∈ listed.toList.filter (fun b => !b) := by
            rw [List.mem_filter]
            refine ⟨?_, rfl⟩
            rw [List.mem_iff_getElem?]
            refine ⟨j, ?_⟩
            simp [hlt] at h0 ⊢
            exact h0
          have h3 := List.length_pos_of_mem this
          omega
      exact ⟨hr, fin listed a w hls inv hs hr⟩
    | succ fuel ih =>
      intro listed a w hls hf inv hs
      refine ⟨fin listed a w hls inv hs, fun i hi => ?_⟩
      obtain ⟨h0, o, ho, hall⟩ := mem_ready.1 hi
      have hlt : i < listed.size := by rw [hls]; exact (Array.getElem?_eq_some_iff.1 ho).1
      have hst := hstep i o ho (fun j => listed.getD j false) (fun j => (listed.setIfInBounds i true).getD j false) a w (getD_both h0) hall (fun j oj hj hl e he hb => inv.closed j oj (by simpa using hj) hl e he hb) hs (fun s hs => inv.rest s (fun j oj hj _ => hs j oj hj)) (fun e he hb oe d hoe hde => by
        have hg := inv.got e.on oe (by simpa using hoe) (hall e he hb)
        simp only [G, valAt, hoe, Option.bind_some, hde, Option.elim_some] at hg
        rw [← hg]
        simp [rho, hoe, valOf, hde, Array.getD_eq_getD_getElem?]) (fun j => by
          by_cases hji : j = i
          · subst hji; rw [if_pos rfl]; simp [hlt]
          · rw [if_neg hji, getD_set_ne _ (Ne.symm hji)])
      have hcount : ((listed.setIfInBounds i true).toList.filter (fun b => !b)).length ≤ fuel := by
        have h0' : listed.toList[i]? = some false := by
          simp [hlt] at h0 ⊢; exact h0
        have := filter_set listed.toList i h0'
        rw [Array.toList_setIfInBounds]
        omega
      have nextInv : ∀ v w', (o.dst.elim undef fun _ => v) = valAt l vals i → ParInv l.toArray a0 w0 G E (listed.setIfInBounds i true) (a.put o.dst v) w' :=
        fun v w' hv => parInv_next (fun _ _ _ _ _ => trivial) hG hloc hd hsz hbk inv ho hlt h0 hall trivial (by simp only [G, upd]; exact (if_pos trivial).trans hv)
      have hval : (o.dst.elim undef fun _ => vals.getD i undef) = valAt l vals i := by
        have ho' : l[i]? = some o := by simpa using ho
        simp only [valAt, ho', Option.bind_some]
      unfold wpOp
      simp only [ho]
      split
      · rename_i hw
        rw [if_pos hw] at hst
        refine .inl (Oper.wp_mono (fun a' w' h => ?_) hst)
        obtain ⟨rfl, hs'⟩ := h
        exact ih _ _ _ (by simp [hls]) hcount (nextInv _ w' hval) hs'
      · rename_i hw
        rw [if_neg hw] at hst
        obtain ⟨hu, hs'⟩ := hst
        refine ih _ _ _ (by simp [hls]) hcount (nextInv undef w ?_) hs'
        rw [← hval, hu]
  have hl0 : ∀ j, (Array.replicate l.toArray.size false).getD j false = false := fun j => getD_replicate_false _ _
  exact main l.toArray.size (Array.replicate l.toArray.size false) a0 w0.drew (by simp) (by
    refine Nat.le_trans (List.length_filter_le _ _) ?_
    simp) ⟨trivial, rfl, rfl, fun s _ => rfl, fun j o _ hl => (by rw [hl0] at hl; cases hl), fun j o _ hl => (by rw [hl0] at hl; cases hl)⟩ (h0 _ hl0)
end
end Go.Proofs.YtmindblfbijaaaaDoor
namespace Go.Proofs.YtmindblfbijaaaaDoor
open Go.RowKit
section
variable {P : Program} {l : List Oper} {a0 : Act} {w0 : World} {Q : Exit → Act → World → Prop}
/-- What a world has become: nothing below B is turned; above it, nothing but that a block may have become x. -/
structure EFresh (B : Nat) (x : Obj) (A C : World) : Prop where
  below : Below B A C
  above : ∀ k, B ≤ k → k < A.heap.size → C.heap[k]? = A.heap[k]? ∨ C.heap[k]? = some x
theorem EFresh.refl (B : Nat) (x : Obj) (A : World) : EFresh B x A A := ⟨Below.refl _ _, fun _ _ _ => .inl rfl⟩
theorem EFresh.trans {B : Nat} {x : Obj} {A C D : World} (h : EFresh B x A C) (k : EFresh B x C D) : EFresh B x A D :=
  ⟨h.below.trans k.below, fun i h1 h2 => by
    rcases k.above i h1 (Nat.lt_of_lt_of_le h2 h.below.size) with h' | h'
    · rcases h.above i h1 h2 with h'' | h''
      · exact .inl (h'.trans h'')
      · exact .inr (h'.trans h'')
    · exact .inr h'⟩
theorem EFresh.of_below {B : Nat} {x : Obj} {A C : World} (h : Below A.heap.size A C) (hB : B ≤ A.heap.size) : EFresh B x A C :=
  ⟨h.mono hB, fun k _ h2 => .inl (h.block k h2)⟩
def GFresh (B p s : Nat) (vals : List Value) (z x : Obj) (j : Nat) (ρ : Nat → Value) (W : World) : Prop :=
  if j = p then ∃ a, ρ p = .pointer (some ⟨a, 0, none⟩) ∧ B ≤ a ∧ (W.heap[a]? = some z ∨ W.heap[a]? = some x)
  else if j = s then ∃ a, ρ p = .pointer (some ⟨a, 0, none⟩) ∧ B ≤ a ∧ W.heap[a]? = some x
  else ρ j = vals.getD j undef
theorem wp_region_fresh {id : Nat} (vals : List Value) (p s : Nat) (T : TypeId) (z x : List Value) (zv : Value) (dp : Tmp) (op os : Oper) (y : Operand)
    (hm : P.follows .mixedOrders = true) (hB : parB l a0.tmps.size = true) (hlen : vals.length = l.length) (hps : p ≠ s)
    (hp : l[p]? = some op) (hp1 : op.op = .alloc T) (hp2 : op.dst = some dp) (hp3 : op.guard = none) (hz : (P.info? T).map (fun i => (i.zero, i.size)) = some (some zv, x.length)) (hzv : zv.cells = z.toArray) (hzl : z.length = x.length)
    (hs : l[s]? = some os) (hs1 : os.op = .store T (.tmp dp) y) (hs2 : os.dst = none) (hs3 : os.guard = none) (hs4 : ∃ e ∈ os.after, Region.binds .any e = true ∧ e.on = p) (hx1 : ∀ v ∈ x, v.oneCell' = true)
    (hund : (l.zipIdx.all fun x => x.1.dst.isSome || x.2 == s) = true)
    (hstore : ∀ a w, Below w0.heap.size w0 w → Rest l.toArray a0 a → (∀ e ∈ os.after, Region.binds .any e = true → e.on ≠ p → ∀ (oe : Oper) (d : Tmp), l[e.on]? = some oe → oe.dst = some d → a.tmps[d]?.getD undef = vals.getD e.on undef) → (a.eval y).cells = x.toArray)
    (hstep : ∀ (i : Nat) (o : Oper), l.toArray[i]? = some o → i ≠ p → i ≠ s → ∀ a w, Below w0.heap.size w0 w → Rest l.toArray a0 a →
      (∀ e ∈ o.after, Region.binds .any e = true → e.on ≠ p → e.on ≠ s → ∀ (oe : Oper) (d : Tmp), l[e.on]? = some oe → oe.dst = some d → a.tmps[d]?.getD undef = vals.getD e.on undef) →
      if Region.wanted o (yielded l.toArray a.tmps) then o.wp P a w (fun a' w' => a' = a.put o.dst (vals.getD i undef) ∧ Below w.heap.size w w') Q else vals.getD i undef = undef)
    (hend : ∀ ad w, Below w0.heap.size w0 w → w0.heap.size ≤ ad → Arr w ad x → Q .normal (putAll a0 ((l.map (·.dst)).zip (vals.set p (.pointer (some ⟨ad, 0, none⟩))))) w) :
    (Code.region id l.toArray true).wp P Q a0 w0 := by
  have hval : ∀ (i : Nat) (o : Oper), l[i]? = some o → i ≠ s → (o.dst.elim undef fun _ => vals.getD i undef) = vals.getD i undef := by
    intro i o hi his
    cases hd : o.dst with
    | none =>
      have hz : (o, i) ∈ l.zipIdx := by rw [List.mem_zipIdx_iff_getElem?]; exact hi
      have := List.all_eq_true.1 hund (o, i) hz
      simp [hd, his] at this
    | some d => rfl
  refine wp_region_par (ops := l.toArray) (E := EFresh w0.heap.size (.cells x.toArray T)) (G := GFresh w0.heap.size p s vals (.cells z.toArray T) (.cells x.toArray T)) hm (by simpa using hB) ⟨(Below.refl _ _).drew, fun _ _ _ => .inl rfl⟩ (fun _ => EFresh.refl _ _ _) (fun _ _ _ h k => h.trans k) ?_ ?_ ?_ ?_
  · intro j ρ w w' hg he
    unfold GFresh at *
    split
    · rename_i h
      rw [if_pos h] at hg
      obtain ⟨a, h1, h2, h3⟩ := hg
      have hlt : a < w.heap.size := by rcases h3 with h3 | h3 <;> exact (Array.getElem?_eq_some_iff.1 h3).1
      refine ⟨a, h1, h2, ?_⟩
      rcases he.above a h2 hlt with h4 | h4
      · rw [h4]; exact h3
      · exact .inr h4
    · rename_i h
      rw [if_neg h] at hg
      split
      · rename_i h'
        rw [if_pos h'] at hg
        obtain ⟨a, h1, h2, h3⟩ := hg
        refine ⟨a, h1, h2, ?_⟩
        rcases he.above a h2 (Array.getElem?_eq_some_iff.1 h3).1 with h4 | h4
        · rw [h4]; exact h3
        · exact h4
      · rename_i h'
        rwa [if_neg h'] at hg
  · intro j o hj ρ ρ' w e0 he hg
    unfold GFresh at *
    split
    · rename_i h
      rw [if_pos h] at hg
      subst h
      rwa [e0] at hg
    · rename_i h
      rw [if_neg h] at hg
      split
      · rename_i h'
        rw [if_pos h'] at hg
        subst h'
        have ho : o = os := by
          have : l[j]? = some o := by simpa using hj
          rw [hs] at this; exact (Option.some.inj this).symm
        subst ho
        obtain ⟨e, h1, h2, h3⟩ := hs4
        have := he e h1 h2
        rw [h3] at this
        rwa [this] at hg
      · rename_i h'
        rw [if_neg h'] at hg
        rwa [e0] at hg
  · intro i o hi a w hE hR hd
    have hil : l[i]? = some o := by simpa using hi
    have hdep : ∀ e ∈ o.after, Region.binds .any e = true → e.on ≠ p → e.on ≠ s → ∀ (oe : Oper) (d : Tmp), l[e.on]? = some oe → oe.dst = some d → a.tmps[d]?.getD undef = vals.getD e.on undef := by
      intro e he hb h1 h2 oe d hoe hde
      have hg := hd e he hb
      unfold GFresh at hg
      rw [if_neg h1, if_neg h2] at hg
      rw [← hg]
      simp [rho, hoe, valOf, hde, Array.getD_eq_getD_getElem?]
    by_cases hip : i = p
    · subst hip
      obtain rfl : o = op := by rw [hp] at hil; exact (Option.some.inj hil).symm
      refine wanted_none hp3 ?_
      refine wp_alloc T hp1 zv x.length hz ⟨_, rfl, EFresh.of_below ((Below.refl _ _).alloc (Nat.le_refl _) _) hE.below.size, ?_⟩
      unfold GFresh
      rw [if_pos rfl]
      refine ⟨w.heap.size, ?_, hE.below.size, .inl ?_⟩
      · simp [upd, hp2]
      · rw [hzv]; exact heap_alloc_new w _
    · by_cases his : i = s
      · subst his
        obtain rfl : o = os := by rw [hs] at hil; exact (Option.some.inj hil).symm
        refine wanted_none hs3 ?_
        obtain ⟨e, he1, he2, he3⟩ := hs4
        have hg := hd e he1 he2
        rw [he3] at hg
        unfold GFresh at hg
        rw [if_pos rfl] at hg
        obtain ⟨ad, h1, h2, h3⟩ := hg
        have h1' : a.eval (.tmp dp) = .pointer (some ⟨ad, 0, none⟩) := by
          rw [← h1]
          simp [rho, hp, valOf, hp2, Act.eval, Array.getD_eq_getD_getElem?]
        obtain ⟨c, hc, hcl⟩ : ∃ c : List Value, w.heap[ad]? = some (.cells c.toArray T) ∧ c.length = x.length := by
          rcases h3 with h3 | h3
          · exact ⟨z, h3, hzl⟩
          · exact ⟨x, h3, rfl⟩
        have hy := hstore a w hE.below hR (fun e he hb h1 oe d hoe hde => by
          have hes : e.on ≠ i := by
            have hB' := hB
            simp only [parB, Bool.and_eq_true] at hB'
            have hz : (o, i) ∈ l.zipIdx := by rw [List.mem_zipIdx_iff_getElem?]; exact hil
            have := List.all_eq_true.1 hB'.2 (o, i) hz
            simp only [Array.all_eq_true_iff_forall_mem] at this
            have := this e he
            simp [hb] at this
            omega
          exact hdep e he hb h1 hes oe d hoe hde)
        have hrun : (execOp a.eval o).run P w = .ok .skip (w.setRow ad x.toArray) := by
          have hst : (storeCells ⟨ad, 0, none⟩ x).run P w = .ok () (w.setRow ad x.toArray) := by
            have := run_storeCells_at P ad 0 T x 0 c.toArray w hc (by simp [hcl]) hx1
            simp only [Nat.zero_add] at this
            rw [this]
            have e1 : (List.take 0 c.toArray.toList ++ x ++ List.drop x.length c.toArray.toList) = x := by simp [← hcl]
            first | rw [e1] | simp [← hcl]
          have hzs : (P.info? T).map (·.size) = some x.length := by
            cases hq : P.info? T with
            | none => simp [hq] at hz
            | some i => simp [hq] at hz ⊢; exact hz.2
          simp only [execOp, hs1, h1']
          simp [Instr.storeAt, Instr.sureAddr, storeVar, Sem.run_bind, hy, run_sizeOf hzs, hst, Result.andThen]
        unfold Oper.wp
        rw [hrun, Oper.upon_skip]
        refine ⟨undef, rfl, ⟨?_, ?_⟩, ?_⟩
        · exact (Below.refl _ _).grown (grownBy_setRow w ad _) hE.below.size (by intro k hk; cases hk; exact h2)
        · intro k hk1 hk2
          by_cases hka : k = ad
          · subst hka
            right
            simp only [World.setRow, Array.getElem?_modify, if_pos, hc]; rfl
          · left
            simp only [World.setRow, Array.getElem?_modify]
            rw [if_neg (fun e => hka e.symm)]
        · unfold GFresh
          rw [if_neg (fun e => hps e.symm), if_pos rfl]
          refine ⟨ad, ?_, h2, ?_⟩
          · simp only [upd]; rw [if_neg hps]; exact h1
          · simp only [World.setRow, Array.getElem?_modify, if_pos, hc]; rfl
      · have hst := hstep i o hi hip his a w hE.below hR hdep
        split
        · rename_i hw
          rw [if_pos hw] at hst
          refine Oper.wp_mono (fun a' w' h => ?_) hst
          obtain ⟨rfl, hb⟩ := h
          refine ⟨_, rfl, EFresh.of_below hb hE.below.size, ?_⟩
          unfold GFresh
          rw [if_neg hip, if_neg his]
          simp only [upd]
          exact (if_pos trivial).trans (hval i o hil his)
        · rename_i hw
          rw [if_neg hw] at hst
          unfold GFresh
          rw [if_neg hip, if_neg his]
          simp only [upd]
          exact (if_pos trivial).trans hst.symm
  · intro us hus w hE hall
    have hsl : s < l.length := (List.getElem?_eq_some_iff.1 hs).1
    have hpl : p < l.length := (List.getElem?_eq_some_iff.1 hp).1
    have hgs := hall s (by simpa using hsl)
    unfold GFresh at hgs
    rw [if_neg (fun e => hps e.symm), if_pos rfl] at hgs
    obtain ⟨ad, h1, h2, h3⟩ := hgs
    have e : putAll a0 ((l.toArray.toList.map (·.dst)).zip us) = putAll a0 ((l.map (·.dst)).zip (vals.set p (.pointer (some ⟨ad, 0, none⟩)))) := by
      refine putAll_congr _ _ _ a0 (by simpa using hus) (by simp [hlen]) ?_
      intro j d hj
      have hjl : j < l.length := by
        have := (List.getElem?_eq_some_iff.1 hj).1
        simpa using this
      by_cases hjp : j = p
      · subst hjp
        refine (show us.getD j undef = _ from h1).trans ?_
        simp [hlen, hjl]
      · have hjs : j ≠ s := by
          intro e
          subst e
          simp [hs, hs2] at hj
        have hg := hall j (by simpa using hjl)
        unfold GFresh at hg
        rw [if_neg hjp, if_neg hjs] at hg
        refine (show us.getD j undef = _ from hg).trans ?_
        simp only [List.getD_eq_getElem?_getD, List.getElem?_set]
        rw [if_neg (fun e => hjp e.symm)]
    rw [e]
    exact hend ad w hE.below h2 ⟨T, h3⟩
end
end Go.Proofs.YtmindblfbijaaaaDoor
namespace Go.Proofs.YtmindblfbijaaaaDoor
open Go.RowKit
section
variable {P : Program} {l : List Oper} {a0 : Act} {w0 : World} {Q : Exit → Act → World → Prop}
def EPut (g : Nat) (x : Obj) (A C : World) : Prop := A.grownBy C (some g) ∧ (C.heap[g]? = A.heap[g]? ∨ C.heap[g]? = some x)
theorem EPut.refl (g : Nat) (x : Obj) (A : World) : EPut g x A A := ⟨World.grownBy.refl _ _, .inl rfl⟩
theorem grownBy_trans' {w1 w2 w3 : World} {r : Option Nat} (h : w1.grownBy w2 r) (k : w2.grownBy w3 r) : w1.grownBy w3 r :=
  ⟨k.os.trans h.os, k.tape.trans h.tape, k.output.trans h.output, Nat.le_trans h.size k.size, fun i hi hr => (k.block i (Nat.lt_of_lt_of_le hi h.size) hr).trans (h.block i hi hr)⟩
theorem EPut.trans {g : Nat} {x : Obj} {A C D : World} (h : EPut g x A C) (k : EPut g x C D) : EPut g x A D :=
  ⟨grownBy_trans' h.1 k.1, by
    rcases k.2 with h' | h'
    · rcases h.2 with h'' | h''
      · exact .inl (h'.trans h'')
      · exact .inr (h'.trans h'')
    · exact .inr h'⟩
theorem EPut.of_below {g : Nat} {x : Obj} {A C : World} (h : Below A.heap.size A C) (hg : g < A.heap.size) : EPut g x A C :=
  ⟨⟨h.os, h.tape, h.output, h.size, fun i hi _ => h.block i hi⟩, .inl (h.block g hg)⟩
def GPut (g s : Nat) (vals : List Value) (x : Obj) (j : Nat) (ρ : Nat → Value) (W : World) : Prop :=
  if j = s then W.heap[g]? = some x else ρ j = vals.getD j undef
theorem wp_region_put {id : Nat} (vals : List Value) (s g off : Nat) (T ty : TypeId) (cs cur : List Value) (os : Oper) (px y : Operand)
    (hm : P.follows .mixedOrders = true) (hB : parB l a0.tmps.size = true) (hlen : vals.length = l.length) (hA : Arr w0 g cur) (hfit : off + cs.length ≤ cur.length)
    (hs : l[s]? = some os) (hs1 : os.op = .store ty px y) (hs2 : os.dst = none) (hs3 : os.guard = none) (hty : (P.info? ty).map (·.size) = some cs.length) (hx1 : ∀ v ∈ cs, v.oneCell' = true)
    (hund : (l.zipIdx.all fun x => x.1.dst.isSome || x.2 == s) = true)
    (hstore : ∀ a w, w0.grownBy w (some g) → Rest l.toArray a0 a → (∀ e ∈ os.after, Region.binds .any e = true → ∀ (oe : Oper) (d : Tmp), l[e.on]? = some oe → oe.dst = some d → a.tmps[d]?.getD undef = vals.getD e.on undef) → a.eval px = .pointer (some ⟨g, off, none⟩) ∧ (a.eval y).cells = cs.toArray)
    (hstep : ∀ (i : Nat) (o : Oper), l.toArray[i]? = some o → i ≠ s → ∀ a w, w0.grownBy w (some g) → Rest l.toArray a0 a →
      (∀ e ∈ o.after, Region.binds .any e = true → e.on ≠ s → ∀ (oe : Oper) (d : Tmp), l[e.on]? = some oe → oe.dst = some d → a.tmps[d]?.getD undef = vals.getD e.on undef) →
      if Region.wanted o (yielded l.toArray a.tmps) then o.wp P a w (fun a' w' => a' = a.put o.dst (vals.getD i undef) ∧ Below w.heap.size w w') Q else vals.getD i undef = undef)
    (hend : ∀ w, w0.grownBy w (some g) → Arr w g (lay cur off cs) → Q .normal (putAll a0 ((l.map (·.dst)).zip vals)) w) :
    (Code.region id l.toArray true).wp P Q a0 w0 := by
  have hval : ∀ (i : Nat) (o : Oper), l[i]? = some o → i ≠ s → (o.dst.elim undef fun _ => vals.getD i undef) = vals.getD i undef := by
    intro i o hi his
    cases hd : o.dst with
    | none =>
      have hz : (o, i) ∈ l.zipIdx := by rw [List.mem_zipIdx_iff_getElem?]; exact hi
      have := List.all_eq_true.1 hund (o, i) hz
      simp [hd, his] at this
    | some d => rfl
  have hgl := hA.lt
  obtain ⟨T0, hA0⟩ := hA
  have hll : lay (lay cur off cs) off cs = lay cur off cs := by
    unfold lay
    have h1 : (cur.take off).length = off := by rw [List.length_take]; omega
    have e1 : (cur.take off ++ cs ++ cur.drop (off + cs.length)).take off = cur.take off := by
      rw [List.append_assoc, List.take_append_of_le_length (by omega), List.take_of_length_le (by omega)]
    have e2 : (cur.take off ++ cs ++ cur.drop (off + cs.length)).drop (off + cs.length) = cur.drop (off + cs.length) := by
      rw [List.drop_append, List.drop_of_length_le (by rw [List.length_append]; omega), List.length_append, h1]; simp
    rw [e1, e2]
  have hlen2 : (lay cur off cs).length = cur.length := by unfold lay; simp; omega
  refine wp_region_par (ops := l.toArray) (E := EPut g (.cells (lay cur off cs).toArray T0)) (G := GPut g s vals (.cells (lay cur off cs).toArray T0)) hm (by simpa using hB) ⟨⟨rfl, rfl, rfl, Nat.le_refl _, fun _ _ _ => rfl⟩, .inl rfl⟩ (fun _ => EPut.refl _ _ _) (fun _ _ _ h k => h.trans k) ?_ ?_ ?_ ?_
  · intro j ρ w w' hg he
    unfold GPut at *
    split
    · rename_i h
      rw [if_pos h] at hg
      rcases he.2 with h4 | h4
      · rw [h4]; exact hg
      · exact h4
    · rename_i h
      rwa [if_neg h] at hg
  · intro j o hj ρ ρ' w e0 he hg
    unfold GPut at *
    split
    · rename_i h
      rwa [if_pos h] at hg
    · rename_i h
      rw [if_neg h] at hg
      rwa [e0] at hg
  · intro i o hi a w hE hR hd
    have hil : l[i]? = some o := by simpa using hi
    have hgw : g < w.heap.size := Nat.lt_of_lt_of_le hgl hE.1.size
    have hdep : ∀ e ∈ o.after, Region.binds .any e = true → e.on ≠ s → ∀ (oe : Oper) (d : Tmp), l[e.on]? = some oe → oe.dst = some d → a.tmps[d]?.getD undef = vals.getD e.on undef := by
      intro e he hb h2 oe d hoe hde
      have hg := hd e he hb
      unfold GPut at hg
      rw [if_neg h2] at hg
      rw [← hg]
      simp [rho, hoe, valOf, hde, Array.getD_eq_getD_getElem?]
    by_cases his : i = s
    · subst his
      obtain rfl : o = os := by rw [hs] at hil; exact (Option.some.inj hil).symm
      refine wanted_none hs3 ?_
      obtain ⟨c, hc, hcl, hlc⟩ : ∃ c : List Value, w.heap[g]? = some (.cells c.toArray T0) ∧ c.length = cur.length ∧ lay c off cs = lay cur off cs := by
        rcases hE.2 with h3 | h3
        · exact ⟨cur, h3.trans hA0, rfl, rfl⟩
        · exact ⟨lay cur off cs, h3, hlen2, hll⟩
      have hy := hstore a w hE.1 hR (fun e he hb oe d hoe hde => by
        have hes : e.on ≠ i := by
          have hB' := hB
          simp only [parB, Bool.and_eq_true] at hB'
          have hz : (o, i) ∈ l.zipIdx := by rw [List.mem_zipIdx_iff_getElem?]; exact hil
          have := List.all_eq_true.1 hB'.2 (o, i) hz
          simp only [Array.all_eq_true_iff_forall_mem] at this
          have := this e he
          simp [hb] at this
          omega
        exact hdep e he hb hes oe d hoe hde)
      have hrun : (execOp a.eval o).run P w = .ok .skip (w.setRow g (lay cur off cs).toArray) := by
        have hst : (storeCells ⟨g, off, none⟩ cs).run P w = .ok () (w.setRow g (lay cur off cs).toArray) := by
          have := run_storeCells_at P g off T0 cs 0 c.toArray w hc (by simpa [hcl] using hfit) hx1
          rw [← hlc]
          simpa [lay] using this
        simp only [execOp, hs1, hy.1]
        simp [Instr.storeAt, Instr.sureAddr, storeVar, Sem.run_bind, hy.2, run_sizeOf hty, hst, Result.andThen]
      have hnew : (w.setRow g (lay cur off cs).toArray).heap[g]? = some (.cells (lay cur off cs).toArray T0) := by
        simp only [World.setRow, Array.getElem?_modify, if_pos, hc]; rfl
      unfold Oper.wp
      rw [hrun, Oper.upon_skip]
      refine ⟨undef, rfl, ⟨grownBy_setRow w g _, .inr hnew⟩, ?_⟩
      unfold GPut
      rw [if_pos rfl]
      exact hnew
    · have hst := hstep i o hi his a w hE.1 hR hdep
      split
      · rename_i hw
        rw [if_pos hw] at hst
        refine Oper.wp_mono (fun a' w' h => ?_) hst
        obtain ⟨rfl, hb⟩ := h
        refine ⟨_, rfl, EPut.of_below hb hgw, ?_⟩
        unfold GPut
        rw [if_neg his]
        simp only [upd]
        exact (if_pos trivial).trans (hval i o hil his)
      · rename_i hw
        rw [if_neg hw] at hst
        unfold GPut
        rw [if_neg his]
        simp only [upd]
        exact (if_pos trivial).trans hst.symm
  · intro us hus w hE hall
    have hsl : s < l.length := (List.getElem?_eq_some_iff.1 hs).1
    have hgs := hall s (by simpa using hsl)
    unfold GPut at hgs
    rw [if_pos rfl] at hgs
    have e : putAll a0 ((l.toArray.toList.map (·.dst)).zip us) = putAll a0 ((l.map (·.dst)).zip vals) := by
      refine putAll_congr _ _ _ a0 (by simpa using hus) (by simp [hlen]) ?_
      intro j d hj
      have hjl : j < l.length := by
        have := (List.getElem?_eq_some_iff.1 hj).1
        simpa using this
      have hjs : j ≠ s := by
        intro e
        subst e
        simp [hs, hs2] at hj
      have hg := hall j (by simpa using hjl)
      unfold GPut at hg
      rw [if_neg hjs] at hg
      exact hg
    rw [e]
    exact hend w hE.1 ⟨T0, hgs⟩
end
end Go.Proofs.YtmindblfbijaaaaDoor
namespace Go.Proofs.YtmindblfbijaaaaDoor
open Go.RowKit
theorem len32_nil : Len32 [] := fun _ h => by cases h
theorem split_last (p : List (List UInt8)) (h : 0 < p.length) : ∃ q x, p = q ++ [x] := by
  rcases List.eq_nil_or_concat p with h' | ⟨q, x, h'⟩
  · subst h'; simp at h
  · exact ⟨q, x, by simpa using h'⟩
theorem climb_one (b : List UInt8) (r : List (List UInt8)) (i : Nat) : Sha.climb b r 1 i = (Sha.leaf b, r.length == 0) := by
  cases r <;> simp [Sha.climb]
theorem bodyPost_cells_tmp {P : Program} {a : Act} {w : World} {fn : Func} {R : Ending → World → Prop} {p t : Tmp} {ty : TypeId} (hr : fn.results = #[.cell p ty, .tmp t]) (hdef : a.defers = []) (g : Nat) (hp : a.tmps.getD p undef = .pointer (some ⟨g, 0, none⟩))
    (cs : List Value) (hA : Arr w g cs) (hT : AggT P ty cs.length) (h : R (.returned (.tuple #[.agg cs.toArray, a.tmps.getD t undef])) w) : bodyPost P fn R .ret a w := by
  refine bodyPost_ret (v := .tuple #[.agg cs.toArray, a.tmps.getD t undef]) ?_ hdef h
  have hl : (loadCells ⟨g, 0, none⟩ cs.length).run P w = .ok cs.toArray w :=
    run_loadCells_list (P := P) w ⟨g, 0, none⟩ cs (fun j v hv => by rw [addr_add, Nat.zero_add]; exact hA.cell hv)
  have hp' : a.tmps[p]?.getD undef = .pointer (some ⟨g, 0, none⟩) := by simpa using hp
  simp [results, hr, hp', asAddr, loadVar, Sem.run_bind, hT.1, run_sizeOf hT.2, hl, Result.andThen]
theorem beq_false {a b : Int} (h : a ≠ b) : (a == b) = false := by simpa using h
set_option maxHeartbeats 400000 in
theorem climb_any (b : List UInt8) (B3 B4 : Nat) (bv : Value) (hb : b.length ≤ 900000) : ∀ (k : Nat) (p : List (List UInt8)) (pv : Value) (n i : Nat) (w : World), p.length = k → Glob w → Arr w B3 [bv] → Sl w bv b.length (u8s b) →
    Arr w B4 [.func (.func 40) #[] #[.pointer (some ⟨B3, 0, none⟩), .pointer (some ⟨B4, 0, none⟩)]] → Sl w pv p.length (sums p) → Len32 p → p.length ≤ 1000000 → 1 ≤ n → n ≤ 4294967296 → i < n →
    Calls Tryd.prog 40 #[.int .i64 n, .int .i64 i, pv, .pointer (some ⟨B3, 0, none⟩), .pointer (some ⟨B4, 0, none⟩)] w fun e w' =>
      e = .returned (.tuple #[.agg (u8s (Sha.climb b p.reverse n i).1).toArray, .bool (Sha.climb b p.reverse n i).2]) ∧ Below w.heap.size w w' := by
  intro k
  induction k using Nat.strongRecOn with
  | _ k ih =>
  intro p pv n i w hk hg h3 hS h4 hP h32 hpn hn1 hn2 hin
  obtain ⟨ao, cap, rfl⟩ := sl_lit hP
  obtain ⟨bao, bcap, rfl⟩ := sl_lit hS
  have hc3 := h3.cell (i := 0) rfl
  have hc4 := h4.cell (i := 0) rfl
  by_cases h1 : n = 1
  · subst h1
    have hc3' : ∀ o', (w.alloc o').cell? ⟨B3, 0, none⟩ = some (.slice bao b.length bcap) := fun o' => (((Below.refl w.heap.size w).alloc (Nat.le_refl _) o').cell (block_lt_of_cell hc3)).trans hc3
    have hrl : p.reverse.length = p.length := List.length_reverse
    obtain ⟨L, hL⟩ : ∃ L, L = p.length := ⟨_, rfl⟩
    rw [← hL] at hP hpn hrl ⊢
    by_cases h0 : L = 0
    · subst h0
      have HR := Lib.hid (show Sha.climb b p.reverse 1 i = (Sha.leaf b, true) by rw [climb_one, hrl]; rfl)
      have HG := Lib.hid hg
      have H3 := Lib.hid h3
      have HS := Lib.hid hS
      clear hP h32 ih hk hg h3 hS h4
      clear hrl hL
      go_enter Tryd.func40, Tryd.ntmps40
      go_wp2_with (go_at_call 14; refine Hid.out ?_)
      refine stop ?_
      refine (leaf_any _ b _ (HG.out.below' ((Below.refl _ _).alloc (Nat.le_refl _) _)) (HS.out.below ((Below.refl _ _).alloc (Nat.le_refl _) _)) hb).mono ?_
      rintro e W ⟨rfl, hb2⟩
      have el : Sha.sum (0 :: b) = Sha.leaf b := rfl
      rw [el]
      have HA8 := Lib.hid ((Arr.new w (u8s (List.replicate 32 0)) _).below' hb2)
      have HB := Lib.hid (((Below.refl w.heap.size w).alloc (Nat.le_refl _) _).trans (hb2.mono (by simp)))
      clear hb2 el
      go_wp2_with (refine wpList_store_cells rfl rfl _ _ _ rfl _ 0 rfl (u8s (Sha.leaf b)) rfl (by rw [u8s_length, Sha.leaf_len]; exact agg32.2) (u8s_one _) _ HA8.out (by rw [u8s_length, u8s_length, List.length_replicate, Sha.leaf_len]; decide) ?_; intro w4 hA3 hG3; replace hA3 := Lib.hid hA3; replace hG3 := Lib.hid hG3)
      have hA4 := hA3.out
      rw [lay_whole _ _ (by rw [u8s_length, u8s_length, List.length_replicate, Sha.leaf_len])] at hA4
      refine bodyPost_cells_tmp rfl rfl w.heap.size rfl _ hA4 (by rw [u8s_length, Sha.leaf_len]; exact agg32) ⟨?_, HB.out.grown hG3.out HB.out.size (by intro k hk; cases hk; exact Nat.le_refl _)⟩
      rw [HR.out]
      rfl
    · have e2 : ((L : Int) == 0) = false := beq_false (by omega)
      have HR := Lib.hid (show Sha.climb b p.reverse 1 i = (Sha.leaf b, false) by rw [climb_one, hrl]; simp [h0])
      have HG := Lib.hid hg
      have H3 := Lib.hid h3
      have HS := Lib.hid hS
      clear hP h32 ih hk hg h3 hS h4
      clear hrl hL
      go_enter Tryd.func40, Tryd.ntmps40
      go_wp2_with (go_at_call 14; refine Hid.out ?_)
      refine stop ?_
      refine (leaf_any _ b _ (HG.out.below' ((Below.refl _ _).alloc (Nat.le_refl _) _)) (HS.out.below ((Below.refl _ _).alloc (Nat.le_refl _) _)) hb).mono ?_
      rintro e W ⟨rfl, hb2⟩
      have el : Sha.sum (0 :: b) = Sha.leaf b := rfl
      rw [el]
      have HA8 := Lib.hid ((Arr.new w (u8s (List.replicate 32 0)) _).below' hb2)
      have HB := Lib.hid (((Below.refl w.heap.size w).alloc (Nat.le_refl _) _).trans (hb2.mono (by simp)))
      clear hb2 el
      go_wp2_with (refine wpList_store_cells rfl rfl _ _ _ rfl _ 0 rfl (u8s (Sha.leaf b)) rfl (by rw [u8s_length, Sha.leaf_len]; exact agg32.2) (u8s_one _) _ HA8.out (by rw [u8s_length, u8s_length, List.length_replicate, Sha.leaf_len]; decide) ?_; intro w4 hA3 hG3; replace hA3 := Lib.hid hA3; replace hG3 := Lib.hid hG3)
      have hA4 := hA3.out
      rw [lay_whole _ _ (by rw [u8s_length, u8s_length, List.length_replicate, Sha.leaf_len])] at hA4
      refine bodyPost_cells_tmp rfl rfl w.heap.size rfl _ hA4 (by rw [u8s_length, Sha.leaf_len]; exact agg32) ⟨?_, HB.out.grown hG3.out HB.out.size (by intro k hk; cases hk; exact Nat.le_refl _)⟩
      rw [HR.out]
      rfl
  · rcases Nat.eq_zero_or_pos p.length with h0 | h0
    · have hpn0 : p = [] := List.length_eq_zero_iff.1 h0
      subst hpn0
      have hc3' : ∀ o', (w.alloc o').cell? ⟨B3, 0, none⟩ = some (.slice bao b.length bcap) := fun o' => (((Below.refl w.heap.size w).alloc (Nat.le_refl _) o').cell (block_lt_of_cell hc3)).trans hc3
      have e1 : ((n : Int) == 1) = false := beq_false (by omega)
      have e3 : (n == 1) = false := by simpa using h1
      have HR := Lib.hid (show Sha.climb b [].reverse n i = (Sha.leaf b, false) by simp [Sha.climb, h1])
      have HG := Lib.hid hg
      have H3 := Lib.hid h3
      have HS := Lib.hid hS
      clear hP h32 ih hk hg h3 hS h4
      simp only [List.length_nil]
      go_enter Tryd.func40, Tryd.ntmps40
      go_wp2_with (go_at_call 14; refine Hid.out ?_)
      refine stop ?_
      refine (leaf_any _ b _ (HG.out.below' ((Below.refl _ _).alloc (Nat.le_refl _) _)) (HS.out.below ((Below.refl _ _).alloc (Nat.le_refl _) _)) hb).mono ?_
      rintro e W ⟨rfl, hb2⟩
      have el : Sha.sum (0 :: b) = Sha.leaf b := rfl
      rw [el]
      have HA8 := Lib.hid ((Arr.new w (u8s (List.replicate 32 0)) _).below' hb2)
      have HB := Lib.hid (((Below.refl w.heap.size w).alloc (Nat.le_refl _) _).trans (hb2.mono (by simp)))
      clear hb2 el
      go_wp2_with (refine wpList_store_cells rfl rfl _ _ _ rfl _ 0 rfl (u8s (Sha.leaf b)) rfl (by rw [u8s_length, Sha.leaf_len]; exact agg32.2) (u8s_one _) _ HA8.out (by rw [u8s_length, u8s_length, List.length_replicate, Sha.leaf_len]; decide) ?_; intro w4 hA3 hG3; replace hA3 := Lib.hid hA3; replace hG3 := Lib.hid hG3)
      have hA4 := hA3.out
      rw [lay_whole _ _ (by rw [u8s_length, u8s_length, List.length_replicate, Sha.leaf_len])] at hA4
      refine bodyPost_cells_tmp rfl rfl w.heap.size rfl _ hA4 (by rw [u8s_length, Sha.leaf_len]; exact agg32) ⟨?_, HB.out.grown hG3.out HB.out.size (by intro k hk; cases hk; exact Nat.le_refl _)⟩
      rw [HR.out]
      rfl
    · obtain ⟨q, x, rfl⟩ : ∃ q x, p = q ++ [x] := split_last p h0
      obtain ⟨m, hM⟩ : ∃ m, m = Sha.cut n := ⟨_, rfl⟩
      have h2 : 2 ≤ n := by omega
      have c1 := Sha.cut_lt h2
      have c0 := Sha.cut_pos n
      rw [← hM] at c1 c0
      have hk' : q.length < k := by rw [← hk]; simp
      have hrev : (q ++ [x]).reverse = x :: q.reverse := by simp
      have hx32 : x.length = 32 := h32 x (by simp)
      have hq32 : Len32 q := fun y hy => h32 y (by simp [hy])
      obtain ⟨L, hL⟩ : ∃ L, L = q.length := ⟨_, rfl⟩
      have hP' : (q ++ [x]).length = L + 1 := by rw [hL]; simp
      rw [hP'] at hP hpn h0 ⊢
      rw [hrev]
      have ihq := ih q.length hk' q
      have hcapP : L + 1 ≤ cap ∧ cap ≤ 9223372036854775807 := by
        obtain ⟨ao', cap', e, g1, g2, _⟩ := hP
        simp only [Value.slice.injEq] at e
        obtain ⟨_, _, rfl⟩ := e
        exact ⟨g1, g2⟩
      obtain ⟨hcap1, hcap2⟩ := hcapP
      have hPq := sl_take hP L (L * 32) (by omega)
      have hsq : (sums (q ++ [x])).take (L * 32) = sums q := by
        rw [sums_snoc, List.take_append_of_le_length (by rw [sums_length hq32, hL]; omega), List.take_of_length_le (by rw [sums_length hq32, hL]; omega)]
      rw [hsq] at hPq
      obtain ⟨pb, po, rfl⟩ : ∃ pb po, ao = some ⟨pb, po, none⟩ := by
        obtain ⟨b, o, cap, e, _⟩ := sl_addr hP (by omega)
        simp only [Value.slice.injEq] at e
        exact ⟨b, o, e.1⟩
      have hxc : ∀ j v, (u8s x)[j]? = some v → w.cell? ⟨pb, po + L * 32 + j, none⟩ = some v := by
        intro j v hj
        obtain ⟨ao', cap', e, g1, g2, g3, g4⟩ := hP
        simp only [Value.slice.injEq] at e
        obtain ⟨rfl, _, _⟩ := e
        rw [Nat.add_assoc]
        refine (g4 _ _ _ rfl).2 _ _ ?_
        rw [sums_snoc, List.getElem?_append_right (by rw [sums_length hq32, hL]; omega), sums_length hq32, hL, show q.length * 32 + j - q.length * 32 = j by omega]
        exact hj
      have e1 : ((n : Int) == 1) = false := beq_false (by omega)
      have e2 : (((L + 1 : Nat) : Int) == 0) = false := beq_false (by omega)
      have HM := Lib.hid hM
      have HG := Lib.hid hg
      have H3 := Lib.hid h3
      have HS := Lib.hid hS
      have H4 := Lib.hid h4
      have HPq := Lib.hid hPq
      have HX := Lib.hid hxc
      have Hq := Lib.hid hq32
      have Hx := Lib.hid hx32
      have HL := Lib.hid hL
      clear hM hk ih hrev hg h3 hS h4 hP h32 hk' hP' hPq hsq hxc hq32 hx32 hL
      by_cases hlt : i < m
      · have HC := Lib.hid (show Sha.climb b (x :: q.reverse) n i = (Sha.pair (Sha.climb b q.reverse m i).1 x, (Sha.climb b q.reverse m i).2) by simp only [Sha.climb]; rw [if_neg h1, if_pos (by rw [← HM.out]; exact hlt), ← HM.out])
        obtain ⟨X, hX⟩ : ∃ X, X = (Sha.climb b q.reverse m i).1 := ⟨_, rfl⟩
        obtain ⟨ok, hok⟩ : ∃ ok, ok = (Sha.climb b q.reverse m i).2 := ⟨_, rfl⟩
        have HI := Lib.hid (fun (W : World) (hb : Below w.heap.size w W) => ihq (.slice (some ⟨pb, po, none⟩) L cap) m i W rfl (HG.out.below' hb) (H3.out.below' hb) (HS.out.below hb) (H4.out.below' hb) (by rw [← HL.out]; exact HPq.out.below hb) Hq.out (by have := HL.out; omega) (by omega) (by omega) (by omega))
        rw [← hX, ← hok] at HC HI
        have HXl := Lib.hid (show X.length = 32 by rw [hX]; exact Sha.climb_len _ _ _ _)
        clear hX hok ihq
        go_enter Tryd.func40, Tryd.ntmps40
        go_wp2_with (go_at_call 38; refine Hid.out ?_)
        refine stop ?_
        refine (cut_any n _ h2 (by omega)).mono ?_
        rintro e W ⟨rfl, hW⟩
        have HB := Lib.hid (show Below w.heap.size w W by rw [← hW]; exact (Below.refl _ _).alloc (Nat.le_refl _) _)
        have HA8 := Lib.hid (show Arr W w.heap.size (u8s (List.replicate 32 0)) by rw [← hW]; exact Arr.new w (u8s (List.replicate 32 0)) _)
        rw [← HM.out]
        clear hW
        go_wp2
        refine wp_region_fresh [(.func (.func 40) #[] #[.pointer (some ⟨B3, 0, none⟩), .pointer (some ⟨B4, 0, none⟩)]), (.int .i64 m), (.int .i64 i), (.slice (some ⟨pb, po, none⟩) (L + 1) cap), (.int .i64 L), (.slice (some ⟨pb, po, none⟩) L cap), (.tuple #[.agg (u8s X).toArray, .bool ok]), (.tuple #[.agg (u8s X).toArray, .bool ok]), (.agg (u8s X).toArray), (.bool ok), undef, undef, (.bool ok)] 10 11 28 (u8s (List.replicate 32 0)) (u8s X) (.agg (u8s (List.replicate 32 0)).toArray) 12 _ _ (.tmp 48) (by kernel_rfl) (by kernel_rfl) rfl (by decide) rfl rfl rfl rfl (by rw [u8s_length, HXl.out]; kernel_rfl) rfl (by rw [u8s_length, u8s_length, HXl.out]; rfl)
          rfl rfl rfl rfl ⟨⟨10, .data⟩, by simp, rfl, rfl⟩ (u8s_one _) (by kernel_rfl) ?hstore ?hstep ?hend
        case hstore =>
          intro a w1 hE hR hd
          have q48 : a.tmps[48]?.getD undef = (.agg (u8s X).toArray) := hd ⟨8, .data⟩ (by simp) rfl (by decide) _ _ rfl rfl
          simp [Act.eval, q48, Value.cells]
        case hstep =>
          refine allFrom_array ⟨?_, ?_, ?_, ?_, ?_, ?_, ?_, ?_, ?_, ?_, ?_, ?_, ?_, trivial⟩ <;> intro hip his a w1 hE hR hd
          · refine wanted_none rfl ?_
            have q4 : a.tmps[4]?.getD undef = (.pointer (some ⟨B4, 0, none⟩)) := hR.evalD rfl rfl
            have c4 : w1.cell? ⟨B4, 0, none⟩ = _ := (hE.cell (block_lt_of_cell ((H4.out.below' HB.out).cell (i := 0) rfl))).trans ((H4.out.below' HB.out).cell (i := 0) rfl)
            go_simp
            exact Below.refl _ _
          · refine wanted_none rfl ?_
            have q10 : a.tmps[10]?.getD undef = (.int .i64 m) := hR.evalD rfl rfl
            go_simp
            exact Below.refl _ _
          · refine wanted_none rfl ?_
            have q1 : a.tmps[1]?.getD undef = (.int .i64 i) := hR.evalD rfl rfl
            go_simp
            exact Below.refl _ _
          · refine wanted_none rfl ?_
            have q2 : a.tmps[2]?.getD undef = (.slice (some ⟨pb, po, none⟩) (L + 1) cap) := hR.evalD rfl rfl
            go_simp
            exact Below.refl _ _
          · refine wanted_none rfl ?_
            have q11 : a.tmps[11]?.getD undef = (.int .i64 L) := hR.evalD rfl rfl
            go_simp
            exact Below.refl _ _
          · refine wanted_none rfl ?_
            have q44 : a.tmps[44]?.getD undef = (.slice (some ⟨pb, po, none⟩) (L + 1) cap) := hd ⟨3, .data⟩ (by simp) rfl (by decide) (by decide) _ _ rfl rfl
            have q45 : a.tmps[45]?.getD undef = (.int .i64 L) := hd ⟨4, .data⟩ (by simp) rfl (by decide) (by decide) _ _ rfl rfl
            have hLc : L ≤ cap := by omega
            go_simp
            exact Below.refl _ _
          · refine wanted_none rfl ?_
            have q41 : a.tmps[41]?.getD undef = (.func (.func 40) #[] #[.pointer (some ⟨B3, 0, none⟩), .pointer (some ⟨B4, 0, none⟩)]) := hd ⟨0, .data⟩ (by simp) rfl (by decide) (by decide) _ _ rfl rfl
            have q42 : a.tmps[42]?.getD undef = (.int .i64 m) := hd ⟨1, .data⟩ (by simp) rfl (by decide) (by decide) _ _ rfl rfl
            have q43 : a.tmps[43]?.getD undef = (.int .i64 i) := hd ⟨2, .data⟩ (by simp) rfl (by decide) (by decide) _ _ rfl rfl
            have q46 : a.tmps[46]?.getD undef = (.slice (some ⟨pb, po, none⟩) L cap) := hd ⟨5, .data⟩ (by simp) rfl (by decide) (by decide) _ _ rfl rfl
            go_simp
            refine (HI.out w1 (HB.out.trans (hE.mono HB.out.size))).mono ?_
            rintro e w2 ⟨rfl, hb2⟩
            exact ⟨rfl, hb2⟩
          · refine wanted_none rfl ?_
            have q47 : a.tmps[47]?.getD undef = (.tuple #[.agg (u8s X).toArray, .bool ok]) := hd ⟨6, .data⟩ (by simp) rfl (by decide) (by decide) _ _ rfl rfl
            go_simp
            exact Below.refl _ _
          · refine wanted_none rfl ?_
            have q40 : a.tmps[40]?.getD undef = (.tuple #[.agg (u8s X).toArray, .bool ok]) := hd ⟨7, .data⟩ (by simp) rfl (by decide) (by decide) _ _ rfl rfl
            go_simp
            exact Below.refl _ _
          · refine wanted_none rfl ?_
            have q40 : a.tmps[40]?.getD undef = (.tuple #[.agg (u8s X).toArray, .bool ok]) := hd ⟨7, .data⟩ (by simp) rfl (by decide) (by decide) _ _ rfl rfl
            go_simp
            exact Below.refl _ _
          · exact absurd rfl hip
          · exact absurd rfl his
          · refine wanted_none rfl ?_
            have q49 : a.tmps[49]?.getD undef = (.bool ok) := hd ⟨9, .data⟩ (by simp) rfl (by decide) (by decide) _ _ rfl rfl
            go_simp
            exact Below.refl _ _
        case hend =>
          intro ad w1 hE had hAd
          have HB1 := Lib.hid (HB.out.trans (hE.mono HB.out.size))
          have HA1 := Lib.hid (HA8.out.below' hE)
          have HAd := Lib.hid hAd
          have hadn : ad ≠ w.heap.size := by have := HA8.out.lt; omega
          clear hE hAd HA8 HI
          simp only [putAll, List.map_cons, List.map_nil, List.set_cons_zero, List.set_cons_succ, List.zip_cons_cons, List.zip_nil_right, Act.put, List.setIfInBounds_toArray]
          go_wp2
          refine wp_region_put [(.agg (u8s X).toArray), (.slice (some ⟨pb, po, none⟩) (L + 1) cap), (.int .i64 L), (.pointer (some ⟨pb, po + L * 32, none⟩)), (.agg (u8s x).toArray), (.agg (u8s (Sha.pair X x)).toArray), (.bool ok), undef, (.bool ok)] 7 w.heap.size 0 28 28 (u8s (Sha.pair X x)) (u8s (List.replicate 32 0)) _ (.tmp 8) (.tmp 55) (by kernel_rfl) (by kernel_rfl) rfl HA1.out (by rw [u8s_length, Sha.pair_len, u8s_length, List.length_replicate]; decide)
            rfl rfl rfl rfl (by rw [u8s_length, Sha.pair_len]; kernel_rfl) (u8s_one _) (by kernel_rfl) ?hstore ?hstep ?hend
          case hstore =>
            intro a w2 hE hR hd
            have q55 : a.tmps[55]?.getD undef = (.agg (u8s (Sha.pair X x)).toArray) := hd ⟨5, .data⟩ (by simp) rfl _ _ rfl rfl
            have q8 : a.tmps[8]?.getD undef = (.pointer (some ⟨w.heap.size, 0, none⟩)) := hR.evalD rfl rfl
            simp [Act.eval, q55, q8, Value.cells]
          case hstep =>
            refine allFrom_array ⟨?_, ?_, ?_, ?_, ?_, ?_, ?_, ?_, ?_, trivial⟩ <;> intro his a w2 hE hR hd
            · refine wanted_none rfl ?_
              have q12 : a.tmps[12]?.getD undef = (.pointer (some ⟨ad, 0, none⟩)) := hR.evalD rfl rfl
              refine wp_load_cells _ _ rfl ad 0 (by simpa [Act.eval] using q12) (u8s X) (by rw [u8s_length, HXl.out]; exact agg32) (fun j v hv => by rw [Nat.zero_add]; exact (HAd.out.grown hE (by intro h; cases h; exact hadn rfl)).cell hv) ?_
              exact ⟨rfl, Below.refl _ _⟩
            · refine wanted_none rfl ?_
              have q2 : a.tmps[2]?.getD undef = (.slice (some ⟨pb, po, none⟩) (L + 1) cap) := hR.evalD rfl rfl
              go_simp
              exact Below.refl _ _
            · refine wanted_none rfl ?_
              have q11 : a.tmps[11]?.getD undef = (.int .i64 L) := hR.evalD rfl rfl
              go_simp
              exact Below.refl _ _
            · refine wanted_none rfl ?_
              have q51 : a.tmps[51]?.getD undef = (.slice (some ⟨pb, po, none⟩) (L + 1) cap) := hd ⟨1, .data⟩ (by simp) rfl (by decide) _ _ rfl rfl
              have q52 : a.tmps[52]?.getD undef = (.int .i64 L) := hd ⟨2, .data⟩ (by simp) rfl (by decide) _ _ rfl rfl
              have hLL : (L : Int) < (L : Int) + 1 := by omega
              go_simp
              exact Below.refl _ _
            · refine wanted_none rfl ?_
              have q53 : a.tmps[53]?.getD undef = (.pointer (some ⟨pb, po + L * 32, none⟩)) := hd ⟨3, .data⟩ (by simp) rfl (by decide) _ _ rfl rfl
              refine wp_load_cells _ _ rfl pb (po + L * 32) (by simpa [Act.eval] using q53) (u8s x) (by rw [u8s_length, Hx.out]; exact agg32) (fun j v hv => ?_) ?_
              · have hc := HX.out j v hv
                exact hE.cell ((HB1.out.cell (block_lt_of_cell hc)).trans hc) (by intro h; have := block_lt_of_cell hc; cases h; simp at this)
              exact ⟨rfl, Below.refl _ _⟩
            · refine wanted_none rfl ?_
              have q50 : a.tmps[50]?.getD undef = (.agg (u8s X).toArray) := hd ⟨0, .data⟩ (by simp) rfl (by decide) _ _ rfl rfl
              have q54 : a.tmps[54]?.getD undef = (.agg (u8s x).toArray) := hd ⟨4, .data⟩ (by simp) rfl (by decide) _ _ rfl rfl
              go_simp
              refine (pair_any X x w2 (HG.out.below' (HB1.out.grown hE HB1.out.size (by intro k hk; cases hk; exact Nat.le_refl _))) HXl.out Hx.out).mono ?_
              rintro e w3 ⟨rfl, hb3⟩
              exact ⟨rfl, hb3⟩
            · refine wanted_none rfl ?_
              have q13 : a.tmps[13]?.getD undef = (.bool ok) := hR.evalD rfl rfl
              go_simp
              exact Below.refl _ _
            · exact absurd rfl his
            · refine wanted_none rfl ?_
              have q56 : a.tmps[56]?.getD undef = (.bool ok) := hd ⟨6, .data⟩ (by simp) rfl (by decide) _ _ rfl rfl
              go_simp
              exact Below.refl _ _
          case hend =>
            intro w2 hE hA2
            rw [lay_whole _ _ (by rw [u8s_length, u8s_length, List.length_replicate, Sha.pair_len])] at hA2
            have HB2 := Lib.hid (HB1.out.grown hE HB1.out.size (by intro k hk; cases hk; exact Nat.le_refl _))
            have HA2 := Lib.hid hA2
            clear hA2 hE
            simp only [putAll, List.map_cons, List.map_nil, List.set_cons_zero, List.set_cons_succ, List.zip_cons_cons, List.zip_nil_right, Act.put, List.setIfInBounds_toArray]
            go_wp2
            refine bodyPost_cells_tmp rfl rfl w.heap.size rfl _ HA2.out (by rw [u8s_length, Sha.pair_len]; exact agg32) ⟨?_, HB2.out⟩
            rw [HC.out]
            rfl
      · have HC := Lib.hid (show Sha.climb b (x :: q.reverse) n i = (Sha.pair x (Sha.climb b q.reverse (n - m) (i - m)).1, (Sha.climb b q.reverse (n - m) (i - m)).2) by simp only [Sha.climb]; rw [if_neg h1, if_neg (by rw [← HM.out]; exact hlt), ← HM.out])
        obtain ⟨X, hX⟩ : ∃ X, X = (Sha.climb b q.reverse (n - m) (i - m)).1 := ⟨_, rfl⟩
        obtain ⟨ok, hok⟩ : ∃ ok, ok = (Sha.climb b q.reverse (n - m) (i - m)).2 := ⟨_, rfl⟩
        have HI := Lib.hid (fun (W : World) (hb : Below w.heap.size w W) => ihq (.slice (some ⟨pb, po, none⟩) L cap) (n - m) (i - m) W rfl (HG.out.below' hb) (H3.out.below' hb) (HS.out.below hb) (H4.out.below' hb) (by rw [← HL.out]; exact HPq.out.below hb) Hq.out (by have := HL.out; omega) (by omega) (by omega) (by omega))
        rw [← hX, ← hok] at HC HI
        have HXl := Lib.hid (show X.length = 32 by rw [hX]; exact Sha.climb_len _ _ _ _)
        clear hX hok ihq
        go_enter Tryd.func40, Tryd.ntmps40
        go_wp2_with (go_at_call 38; refine Hid.out ?_)
        refine stop ?_
        refine (cut_any n _ h2 (by omega)).mono ?_
        rintro e W ⟨rfl, hW⟩
        have HB := Lib.hid (show Below w.heap.size w W by rw [← hW]; exact (Below.refl _ _).alloc (Nat.le_refl _) _)
        have HA8 := Lib.hid (show Arr W w.heap.size (u8s (List.replicate 32 0)) by rw [← hW]; exact Arr.new w (u8s (List.replicate 32 0)) _)
        rw [← HM.out]
        clear hW
        go_wp2
        refine wp_region_fresh [(.func (.func 40) #[] #[.pointer (some ⟨B3, 0, none⟩), .pointer (some ⟨B4, 0, none⟩)]), (.int .i64 n), (.int .i64 m), (.int .i64 ((n : Int) - m)), (.int .i64 i), (.int .i64 m), (.int .i64 ((i : Int) - m)), (.slice (some ⟨pb, po, none⟩) (L + 1) cap), (.int .i64 L), (.slice (some ⟨pb, po, none⟩) L cap), (.tuple #[.agg (u8s X).toArray, .bool ok]), (.tuple #[.agg (u8s X).toArray, .bool ok]), (.agg (u8s X).toArray), (.bool ok), undef, undef, (.bool ok)] 14 15 28 (u8s (List.replicate 32 0)) (u8s X) (.agg (u8s (List.replicate 32 0)).toArray) 14 _ _ (.tmp 69) (by kernel_rfl) (by kernel_rfl) rfl (by decide) rfl rfl rfl rfl (by rw [u8s_length, HXl.out]; kernel_rfl) rfl (by rw [u8s_length, u8s_length, HXl.out]; rfl)
          rfl rfl rfl rfl ⟨⟨14, .data⟩, by simp, rfl, rfl⟩ (u8s_one _) (by kernel_rfl) ?hstore ?hstep ?hend
        case hstore =>
          intro a w1 hE hR hd
          have q69 : a.tmps[69]?.getD undef = (.agg (u8s X).toArray) := hd ⟨12, .data⟩ (by simp) rfl (by decide) _ _ rfl rfl
          simp [Act.eval, q69, Value.cells]
        case hstep =>
          refine allFrom_array ⟨?_, ?_, ?_, ?_, ?_, ?_, ?_, ?_, ?_, ?_, ?_, ?_, ?_, ?_, ?_, ?_, ?_, trivial⟩ <;> intro hip his a w1 hE hR hd
          · refine wanted_none rfl ?_
            have q4 : a.tmps[4]?.getD undef = (.pointer (some ⟨B4, 0, none⟩)) := hR.evalD rfl rfl
            have c4 : w1.cell? ⟨B4, 0, none⟩ = _ := (hE.cell (block_lt_of_cell ((H4.out.below' HB.out).cell (i := 0) rfl))).trans ((H4.out.below' HB.out).cell (i := 0) rfl)
            go_simp
            exact Below.refl _ _
          · refine wanted_none rfl ?_
            have q0 : a.tmps[0]?.getD undef = (.int .i64 n) := hR.evalD rfl rfl
            go_simp
            exact Below.refl _ _
          · refine wanted_none rfl ?_
            have q10 : a.tmps[10]?.getD undef = (.int .i64 m) := hR.evalD rfl rfl
            go_simp
            exact Below.refl _ _
          · refine wanted_none rfl ?_
            have q59 : a.tmps[59]?.getD undef = (.int .i64 n) := hd ⟨1, .data⟩ (by simp) rfl (by decide) (by decide) _ _ rfl rfl
            have q60 : a.tmps[60]?.getD undef = (.int .i64 m) := hd ⟨2, .data⟩ (by simp) rfl (by decide) (by decide) _ _ rfl rfl
            have ew : IntKind.i64.wrap ((n : Int) - m) = (n : Int) - m := IntWalk.i64_in _ (by omega)
            go_simp
            exact Below.refl _ _
          · refine wanted_none rfl ?_
            have q1 : a.tmps[1]?.getD undef = (.int .i64 i) := hR.evalD rfl rfl
            go_simp
            exact Below.refl _ _
          · refine wanted_none rfl ?_
            have q10 : a.tmps[10]?.getD undef = (.int .i64 m) := hR.evalD rfl rfl
            go_simp
            exact Below.refl _ _
          · refine wanted_none rfl ?_
            have q62 : a.tmps[62]?.getD undef = (.int .i64 i) := hd ⟨4, .data⟩ (by simp) rfl (by decide) (by decide) _ _ rfl rfl
            have q63 : a.tmps[63]?.getD undef = (.int .i64 m) := hd ⟨5, .data⟩ (by simp) rfl (by decide) (by decide) _ _ rfl rfl
            have ew : IntKind.i64.wrap ((i : Int) - m) = (i : Int) - m := IntWalk.i64_in _ (by omega)
            go_simp
            exact Below.refl _ _
          · refine wanted_none rfl ?_
            have q2 : a.tmps[2]?.getD undef = (.slice (some ⟨pb, po, none⟩) (L + 1) cap) := hR.evalD rfl rfl
            go_simp
            exact Below.refl _ _
          · refine wanted_none rfl ?_
            have q11 : a.tmps[11]?.getD undef = (.int .i64 L) := hR.evalD rfl rfl
            go_simp
            exact Below.refl _ _
          · refine wanted_none rfl ?_
            have q65 : a.tmps[65]?.getD undef = (.slice (some ⟨pb, po, none⟩) (L + 1) cap) := hd ⟨7, .data⟩ (by simp) rfl (by decide) (by decide) _ _ rfl rfl
            have q66 : a.tmps[66]?.getD undef = (.int .i64 L) := hd ⟨8, .data⟩ (by simp) rfl (by decide) (by decide) _ _ rfl rfl
            have hLc : L ≤ cap := by omega
            go_simp
            exact Below.refl _ _
          · refine wanted_none rfl ?_
            have q58 : a.tmps[58]?.getD undef = (.func (.func 40) #[] #[.pointer (some ⟨B3, 0, none⟩), .pointer (some ⟨B4, 0, none⟩)]) := hd ⟨0, .data⟩ (by simp) rfl (by decide) (by decide) _ _ rfl rfl
            have q61 : a.tmps[61]?.getD undef = (.int .i64 ((n : Int) - m)) := hd ⟨3, .data⟩ (by simp) rfl (by decide) (by decide) _ _ rfl rfl
            have q64 : a.tmps[64]?.getD undef = (.int .i64 ((i : Int) - m)) := hd ⟨6, .data⟩ (by simp) rfl (by decide) (by decide) _ _ rfl rfl
            have q67 : a.tmps[67]?.getD undef = (.slice (some ⟨pb, po, none⟩) L cap) := hd ⟨9, .data⟩ (by simp) rfl (by decide) (by decide) _ _ rfl rfl
            go_simp
            have en : (n : Int) - m = ((n - m : Nat) : Int) := by omega
            have ei : (i : Int) - m = ((i - m : Nat) : Int) := by omega
            rw [en, ei]
            refine (HI.out w1 (HB.out.trans (hE.mono HB.out.size))).mono ?_
            rintro e w2 ⟨rfl, hb2⟩
            exact ⟨rfl, hb2⟩
          · refine wanted_none rfl ?_
            have q68 : a.tmps[68]?.getD undef = (.tuple #[.agg (u8s X).toArray, .bool ok]) := hd ⟨10, .data⟩ (by simp) rfl (by decide) (by decide) _ _ rfl rfl
            go_simp
            exact Below.refl _ _
          · refine wanted_none rfl ?_
            have q57 : a.tmps[57]?.getD undef = (.tuple #[.agg (u8s X).toArray, .bool ok]) := hd ⟨11, .data⟩ (by simp) rfl (by decide) (by decide) _ _ rfl rfl
            go_simp
            exact Below.refl _ _
          · refine wanted_none rfl ?_
            have q57 : a.tmps[57]?.getD undef = (.tuple #[.agg (u8s X).toArray, .bool ok]) := hd ⟨11, .data⟩ (by simp) rfl (by decide) (by decide) _ _ rfl rfl
            go_simp
            exact Below.refl _ _
          · exact absurd rfl hip
          · exact absurd rfl his
          · refine wanted_none rfl ?_
            have q70 : a.tmps[70]?.getD undef = (.bool ok) := hd ⟨13, .data⟩ (by simp) rfl (by decide) (by decide) _ _ rfl rfl
            go_simp
            exact Below.refl _ _
        case hend =>
          intro ad w1 hE had hAd
          have HB1 := Lib.hid (HB.out.trans (hE.mono HB.out.size))
          have HA1 := Lib.hid (HA8.out.below' hE)
          have HAd := Lib.hid hAd
          have hadn : ad ≠ w.heap.size := by have := HA8.out.lt; omega
          clear hE hAd HA8 HI
          simp only [putAll, List.map_cons, List.map_nil, List.set_cons_zero, List.set_cons_succ, List.zip_cons_cons, List.zip_nil_right, Act.put, List.setIfInBounds_toArray]
          go_wp2
          refine wp_region_put [(.slice (some ⟨pb, po, none⟩) (L + 1) cap), (.int .i64 L), (.pointer (some ⟨pb, po + L * 32, none⟩)), (.agg (u8s x).toArray), (.agg (u8s X).toArray), (.agg (u8s (Sha.pair x X)).toArray), (.bool ok), undef, (.bool ok)] 7 w.heap.size 0 28 28 (u8s (Sha.pair x X)) (u8s (List.replicate 32 0)) _ (.tmp 8) (.tmp 76) (by kernel_rfl) (by kernel_rfl) rfl HA1.out (by rw [u8s_length, Sha.pair_len, u8s_length, List.length_replicate]; decide)
            rfl rfl rfl rfl (by rw [u8s_length, Sha.pair_len]; kernel_rfl) (u8s_one _) (by kernel_rfl) ?hstore ?hstep ?hend
          case hstore =>
            intro a w2 hE hR hd
            have q76 : a.tmps[76]?.getD undef = (.agg (u8s (Sha.pair x X)).toArray) := hd ⟨5, .data⟩ (by simp) rfl _ _ rfl rfl
            have q8 : a.tmps[8]?.getD undef = (.pointer (some ⟨w.heap.size, 0, none⟩)) := hR.evalD rfl rfl
            simp [Act.eval, q76, q8, Value.cells]
          case hstep =>
            refine allFrom_array ⟨?_, ?_, ?_, ?_, ?_, ?_, ?_, ?_, ?_, trivial⟩ <;> intro his a w2 hE hR hd
            · refine wanted_none rfl ?_
              have q2 : a.tmps[2]?.getD undef = (.slice (some ⟨pb, po, none⟩) (L + 1) cap) := hR.evalD rfl rfl
              go_simp
              exact Below.refl _ _
            · refine wanted_none rfl ?_
              have q11 : a.tmps[11]?.getD undef = (.int .i64 L) := hR.evalD rfl rfl
              go_simp
              exact Below.refl _ _
            · refine wanted_none rfl ?_
              have q71 : a.tmps[71]?.getD undef = (.slice (some ⟨pb, po, none⟩) (L + 1) cap) := hd ⟨0, .data⟩ (by simp) rfl (by decide) _ _ rfl rfl
              have q72 : a.tmps[72]?.getD undef = (.int .i64 L) := hd ⟨1, .data⟩ (by simp) rfl (by decide) _ _ rfl rfl
              have hLL : (L : Int) < (L : Int) + 1 := by omega
              go_simp
              exact Below.refl _ _
            · refine wanted_none rfl ?_
              have q73 : a.tmps[73]?.getD undef = (.pointer (some ⟨pb, po + L * 32, none⟩)) := hd ⟨2, .data⟩ (by simp) rfl (by decide) _ _ rfl rfl
              refine wp_load_cells _ _ rfl pb (po + L * 32) (by simpa [Act.eval] using q73) (u8s x) (by rw [u8s_length, Hx.out]; exact agg32) (fun j v hv => ?_) ?_
              · have hc := HX.out j v hv
                exact hE.cell ((HB1.out.cell (block_lt_of_cell hc)).trans hc) (by intro h; have := block_lt_of_cell hc; cases h; simp at this)
              exact ⟨rfl, Below.refl _ _⟩
            · refine wanted_none rfl ?_
              have q14 : a.tmps[14]?.getD undef = (.pointer (some ⟨ad, 0, none⟩)) := hR.evalD rfl rfl
              refine wp_load_cells _ _ rfl ad 0 (by simpa [Act.eval] using q14) (u8s X) (by rw [u8s_length, HXl.out]; exact agg32) (fun j v hv => by rw [Nat.zero_add]; exact (HAd.out.grown hE (by intro h; cases h; exact hadn rfl)).cell hv) ?_
              exact ⟨rfl, Below.refl _ _⟩
            · refine wanted_none rfl ?_
              have q74 : a.tmps[74]?.getD undef = (.agg (u8s x).toArray) := hd ⟨3, .data⟩ (by simp) rfl (by decide) _ _ rfl rfl
              have q75 : a.tmps[75]?.getD undef = (.agg (u8s X).toArray) := hd ⟨4, .data⟩ (by simp) rfl (by decide) _ _ rfl rfl
              go_simp
              refine (pair_any x X w2 (HG.out.below' (HB1.out.grown hE HB1.out.size (by intro k hk; cases hk; exact Nat.le_refl _))) Hx.out HXl.out).mono ?_
              rintro e w3 ⟨rfl, hb3⟩
              exact ⟨rfl, hb3⟩
            · refine wanted_none rfl ?_
              have q15 : a.tmps[15]?.getD undef = (.bool ok) := hR.evalD rfl rfl
              go_simp
              exact Below.refl _ _
            · exact absurd rfl his
            · refine wanted_none rfl ?_
              have q77 : a.tmps[77]?.getD undef = (.bool ok) := hd ⟨6, .data⟩ (by simp) rfl (by decide) _ _ rfl rfl
              go_simp
              exact Below.refl _ _
          case hend =>
            intro w2 hE hA2
            rw [lay_whole _ _ (by rw [u8s_length, u8s_length, List.length_replicate, Sha.pair_len])] at hA2
            have HB2 := Lib.hid (HB1.out.grown hE HB1.out.size (by intro k hk; cases hk; exact Nat.le_refl _))
            have HA2 := Lib.hid hA2
            clear hA2 hE
            simp only [putAll, List.map_cons, List.map_nil, List.set_cons_zero, List.set_cons_succ, List.zip_cons_cons, List.zip_nil_right, Act.put, List.setIfInBounds_toArray]
            go_wp2
            refine bodyPost_cells_tmp rfl rfl w.heap.size rfl _ HA2.out (by rw [u8s_length, Sha.pair_len]; exact agg32) ⟨?_, HB2.out⟩
            rw [HC.out]
            rfl
end Go.Proofs.YtmindblfbijaaaaDoor
namespace Go.Proofs.YtmindblfbijaaaaDoor
open Go.RowKit
theorem u8s_cell (l : List UInt8) : u8s l = l.map Extern.Stop.cell := rfl
theorem guard_sum : (Tryd.prog).eqGuardType (Tryd.prog).depth 28 = false := by kernel_rfl
theorem eq_sums (l1 l2 : List UInt8) (h1 : l1.length = 32) (h2 : l2.length = 32) (w : World) :
    (Op.equalIn 10000 28 (.agg (u8s l1).toArray) (.agg (u8s l2).toArray)).run Tryd.prog w = .ok (l1 == l2) w :=
  run_equalIn_bytes w 9998 28 5 32 (by kernel_rfl) (by kernel_rfl) (fun _ => by kernel_rfl) l1 l2 h1 h2
theorem wpList_load_cells_w {P : Program} {ops : Array Oper} {rest : List Oper} {o : Oper} {a : Act} {w : World} {Q : Exit → Act → World → Prop} (hw : Region.wanted o (yielded ops a.tmps) = true) (ty : TypeId) (x : Operand) (ho : o.op = .load ty x) (g off : Nat) (hx : a.eval x = .pointer (some ⟨g, off, none⟩))
    (cs : List Value) (hT : AggT P ty cs.length) (hc : ∀ j v, cs[j]? = some v → w.cell? ⟨g, off + j, none⟩ = some v)
    (h : wpList P ops Q rest (a.put o.dst (.agg cs.toArray)) w) : wpList P ops Q (o :: rest) a w :=
  BigFrame.wpList_want hw fun _ hK => wp_load_cells ty x ho g off hx cs hT hc (hK _ _ h)
end Go.Proofs.YtmindblfbijaaaaDoor
namespace Go.Proofs.YtmindblfbijaaaaDoor
open Go.RowKit
/-- Store of a value into a block whose cells are known. -/
theorem wpList_store_any {P : Program} {ops : Array Oper} {rest : List Oper} {o : Oper} {a : Act} {w : World} {Q : Exit → Act → World → Prop} (hgd : o.guard = none) (hd : o.dst = none) (ty : TypeId) (x y : Operand) (ho : o.op = .store ty x y) (g off : Nat) (hx : a.eval x = .pointer (some ⟨g, off, none⟩))
    (cs : List Value) (hy : (a.eval y).cells = cs.toArray) (hT : (P.info? ty).map (·.size) = some cs.length) (h1 : ∀ v ∈ cs, v.oneCell' = true) (cur : List Value) (hA : Arr w g cur) (hfit : off + cs.length ≤ cur.length)
    (h : ∀ w', Arr w' g (lay cur off cs) → w.grownBy w' (some g) → wpList P ops Q rest a w') : wpList P ops Q (o :: rest) a w := by
  obtain ⟨T, hg⟩ := hA
  have hs : (storeCells ⟨g, off, none⟩ cs).run P w = .ok () (w.setRow g (lay cur off cs).toArray) := by
    have := run_storeCells_at P g off T cs 0 cur.toArray w hg (by simpa using hfit) h1
    simpa [lay] using this
  refine wpList_plain hgd fun K hK => ?_
  unfold Oper.wp
  have : (execOp a.eval o).run P w = .ok .skip (w.setRow g (lay cur off cs).toArray) := by
    simp only [execOp, ho, hx]
    simp [Instr.storeAt, Instr.sureAddr, storeVar, Sem.run_bind, hy, run_sizeOf hT, hs, Result.andThen]
  rw [this, Oper.upon_skip, hd]
  exact hK _ _ (h _ (Arr.setRow ⟨T, hg⟩ _) (grownBy_setRow _ _ _))
set_option maxHeartbeats 400000 in
theorem check_any (root b : List UInt8) (n i : Int) (p : List (List UInt8)) (bv pv : Value) (w : World) (hr : root.length = 32) (hb : b.length ≤ 900000) (hg : Glob w) (hS : Sl w bv b.length (u8s b)) (hP : Sl w pv p.length (sums p)) (h32 : Len32 p) (hpn : p.length ≤ 1000000) (hn : n ≤ 4294967296) :
    Calls Tryd.prog 23 #[.agg (u8s root).toArray, .int .i64 n, .int .i64 i, bv, pv] w fun e w' => e = .returned (.bool (Sha.check root n i b p)) ∧ Below w.heap.size w w' := by
  obtain ⟨ao, cap, rfl⟩ := sl_lit hP
  obtain ⟨bao, bcap, rfl⟩ := sl_lit hS
  have HG := Lib.hid hg
  have HS := Lib.hid hS
  have HP := Lib.hid hP
  have H32 := Lib.hid h32
  have HR := Lib.hid hr
  clear hg hS hP h32 hr
  by_cases hi0 : i < 0
  · have hc : Sha.check root n i b p = false := by unfold Sha.check; rw [if_pos (.inl hi0)]
    rw [hc]
    go_enter Tryd.func23, Tryd.ntmps23
    go_wp2
    exact bodyPost_ret (results_tmp rfl _ _ _) rfl ⟨rfl, ((Below.refl _ _).alloc (Nat.le_refl _) _).alloc (by simp) _⟩
  · by_cases hin : n ≤ i
    · have hc : Sha.check root n i b p = false := by unfold Sha.check; rw [if_pos (.inr hin)]
      rw [hc]
      go_enter Tryd.func23, Tryd.ntmps23
      go_wp2
      exact bodyPost_ret (results_tmp rfl _ _ _) rfl ⟨rfl, ((Below.refl _ _).alloc (Nat.le_refl _) _).alloc (by simp) _⟩
    · have hc : Sha.check root n i b p = ((Sha.climb b p.reverse n.toNat i.toNat).2 && decide ((Sha.climb b p.reverse n.toNat i.toNat).1 = root)) := by unfold Sha.check; rw [if_neg (by omega)]
      obtain ⟨n', rfl⟩ : ∃ n' : Nat, n = n' := ⟨n.toNat, by omega⟩
      obtain ⟨i', rfl⟩ : ∃ i' : Nat, i = i' := ⟨i.toNat, by omega⟩
      rw [Int.toNat_natCast, Int.toNat_natCast] at hc
      have HC := Lib.hid hc
      clear hc
      go_enter Tryd.func23, Tryd.ntmps23
      go_wp2_with (refine wpList_store_any rfl rfl _ _ _ rfl (w.heap.size + 1 + 1) 0 rfl [_] rfl (by kernel_rfl) (by intro v hv; simp only [List.mem_singleton] at hv; subst hv; rfl) [.nilFunc] (Arr.newAt (by simp) [_] _) (by simp) (fun W hA hW => Hid.out ?_))
      refine stop ?_
      have hB0 : Below w.heap.size w W := ((((Below.refl _ _).alloc (Nat.le_refl _) _).alloc (by simp) _).alloc (by simp; omega) _).grown hW (by simp; omega) (by intro k hk; cases hk; omega)
      have hA5 : Arr W w.heap.size (u8s root) := ((((Arr.new w (u8s root) _).alloc _).alloc _).grown hW (by simp; omega))
      have hA8 : Arr W (w.heap.size + 1) [.slice bao b.length bcap] := (((Arr.newAt (by simp) [_] _).alloc _).grown hW (by simp))
      have hA11 : Arr W (w.heap.size + 1 + 1) [.func (.func 40) #[] #[.pointer (some ⟨w.heap.size + 1, 0, none⟩), .pointer (some ⟨w.heap.size + 1 + 1, 0, none⟩)]] := hA
      have hc11 := hA11.cell (i := 0) rfl
      have HB0 := Lib.hid hB0
      have HA5 := Lib.hid hA5
      have HA8 := Lib.hid hA8
      have HA11 := Lib.hid hA11
      clear hA hW hB0 hA5 hA8 hA11
      go_wp2_with (go_at_call 40; refine Hid.out ?_)
      refine stop ?_
      refine (climb_any b (w.heap.size + 1) (w.heap.size + 1 + 1) _ hb _ p _ n' i' _ rfl (HG.out.below' HB0.out) HA8.out (HS.out.below HB0.out) HA11.out (HP.out.below HB0.out) H32.out hpn (by omega) (by omega) (by omega)).mono ?_
      rintro e W2 ⟨rfl, hb2⟩
      obtain ⟨X, hX⟩ : ∃ X, X = (Sha.climb b p.reverse n' i').1 := ⟨_, rfl⟩
      obtain ⟨ok, hok⟩ : ∃ ok, ok = (Sha.climb b p.reverse n' i').2 := ⟨_, rfl⟩
      have hXl : X.length = 32 := by rw [hX]; exact Sha.climb_len _ _ _ _
      rw [← hX, ← hok] at HC ⊢
      have HXl := Lib.hid hXl
      have HB2 := Lib.hid (HB0.out.trans (hb2.mono HB0.out.size))
      have HA52 := Lib.hid (HA5.out.below' hb2)
      clear hX hok hXl hb2 hc11
      cases ok with
      | false =>
        go_wp2_with (refine wpList_store_any rfl rfl _ _ _ rfl _ 0 rfl (u8s X) rfl (by rw [u8s_length, HXl.out]; kernel_rfl) (u8s_one _) (u8s (List.replicate 32 0)) (Arr.new _ (u8s (List.replicate 32 0)) _) (by rw [u8s_length, u8s_length, List.length_replicate, HXl.out]; decide) (fun W3 hA3 hW3 => Hid.out ?_))
        refine stop ?_
        have HB3 := Lib.hid ((HB2.out.alloc HB2.out.size _).grown hW3 (by have := HB2.out.size; simp; omega) (by intro k hk; cases hk; exact HB2.out.size))
        clear hA3 hW3
        go_wp2
        exact bodyPost_ret (results_tmp rfl _ _ _) rfl ⟨by rw [HC.out]; rfl, HB3.out⟩
      | true =>
        go_wp2_with (refine wpList_store_any rfl rfl _ _ _ rfl _ 0 rfl (u8s X) rfl (by rw [u8s_length, HXl.out]; kernel_rfl) (u8s_one _) (u8s (List.replicate 32 0)) (Arr.new _ (u8s (List.replicate 32 0)) _) (by rw [u8s_length, u8s_length, List.length_replicate, HXl.out]; decide) (fun W3 hA3 hW3 => Hid.out ?_))
        refine stop ?_
        rw [lay_whole _ _ (by rw [u8s_length, u8s_length, List.length_replicate, HXl.out])] at hA3
        have HB3 := Lib.hid ((HB2.out.alloc HB2.out.size _).grown hW3 (by have := HB2.out.size; simp; omega) (by intro k hk; cases hk; exact HB2.out.size))
        have HA3 := Lib.hid hA3
        have HA53 := Lib.hid ((HA52.out.alloc _).grown hW3 (by have := HA52.out.lt; intro h; simp only [Option.some.injEq] at h; omega))
        have qe := eq_sums X root HXl.out HR.out
        have qg := guard_sum
        clear hA3 hW3
        go_wp2_with (first
          | (refine wpList_load_cells_w rfl _ _ rfl W2.heap.size 0 rfl (u8s X) (by rw [u8s_length, HXl.out]; exact agg32) (fun j v hv => by rw [Nat.zero_add]; exact HA3.out.cell hv) ?_)
          | (refine wpList_load_cells_w rfl _ _ rfl w.heap.size 0 rfl (u8s root) (by rw [u8s_length, HR.out]; exact agg32) (fun j v hv => by rw [Nat.zero_add]; exact HA53.out.cell hv) ?_))
        refine bodyPost_ret (results_tmp rfl _ _ _) rfl ⟨?_, HB3.out⟩
        rw [HC.out]
        refine ret_bool ?_
        rw [Bool.true_and]
        exact Bool.eq_iff_iff.2 (by simp)
end Go.Proofs.YtmindblfbijaaaaDoor
namespace Go.Proofs.YtmindblfbijaaaaDoor
open Go.RowKit
def digits : ByteArray := { data := #[48, 49, 50, 51, 52, 53, 54, 55, 56, 57, 97, 98, 99, 100, 101, 102] }
def hex1 (x : UInt8) : ByteArray := digits.extract (x.toNat / 16) (x.toNat / 16 + 1) ++ digits.extract (x.toNat % 16) (x.toNat % 16 + 1)
/-- The hexadecimal digits of bytes. -/
def hexB (l : List UInt8) : ByteArray := l.foldl (fun s x => s ++ hex1 x) { data := #[] }
theorem hex1_size (x : UInt8) : (hex1 x).size ≤ 2 := by
  unfold hex1
  rw [ByteArray.size_append, ByteArray.size_extract, ByteArray.size_extract]; omega
theorem hexB_take (l : List UInt8) (k : Nat) (h : k < l.length) : hexB (l.take (k + 1)) = hexB (l.take k) ++ hex1 (l.getD k 0) := by
  unfold hexB
  rw [List.take_succ_eq_append_getElem h, List.foldl_append]
  simp [h]
theorem hexB_size (l : List UInt8) : ∀ k, k ≤ l.length → (hexB (l.take k)).size ≤ 2 * k := by
  intro k
  induction k with
  | zero => intro _; exact Nat.le_of_eq rfl
  | succ k ih =>
    intro h
    rw [hexB_take l k (by omega), ByteArray.size_append]
    have := ih (by omega)
    have := hex1_size (l.getD k 0)
    omega
set_option maxHeartbeats 400000 in
theorem hex_any (l : List UInt8) (w : World) (hl : l.length = 32) :
    Calls Tryd.prog 28 #[.agg (u8s l).toArray] w fun e w' => e = .returned (.string (hexB l)) ∧ Below w.heap.size w w' := by
  have HL := Lib.hid hl; clear hl
  go_enter Tryd.func28, Tryd.ntmps28
  go_wp2
  go_loopw [3, 4] (fun s i wr => ∃ k : Nat, k ≤ 32 ∧ i = .int .i64 k ∧ s = .string (hexB (l.take k)) ∧ Arr wr w.heap.size (u8s l) ∧ Below w.heap.size w wr) (fun _ i _ => 32 - (intOf i).toNat)
  case atStart => exact ⟨0, by omega, rfl, rfl, Arr.new w _ _, (Below.refl _ _).alloc (Nat.le_refl _) _⟩
  case round =>
    obtain ⟨k, hk, rfl, rfl, hA, hB⟩ := hrel
    by_cases hlt : k < 32
    · obtain ⟨x, hx⟩ : ∃ x : UInt8, x = l.getD k 0 := ⟨_, rfl⟩
      have hc : wr.cell? ⟨w.heap.size, k, none⟩ = some (.int .u8 x.toNat) := by
        rw [hx]; exact hA.cell (u8s_get (by rw [HL.out]; exact hlt))
      have hnx := hexB_take l k (by rw [HL.out]; exact hlt)
      rw [← hx] at hnx
      have hts := hexB_size l k (by rw [HL.out]; omega)
      obtain ⟨t, ht⟩ : ∃ t, t = hexB (l.take k) := ⟨_, rfl⟩
      rw [← ht] at hnx hts ⊢
      have HN := Lib.hid hnx
      have HA := Lib.hid hA
      have HB := Lib.hid hB
      clear hx hA hB hnx ht
      have hx255 := x.toNat_lt
      have hT : ¬ 9223372036854775807 < t.size + (min (x.toNat / 16 + 1) 16 - x.toNat / 16 + (min (x.toNat % 16 + 1) 16 - x.toNat % 16)) := by omega
      go_wp2
      go_quiet (fail)
      have HA2 := Lib.hid (HA.out.drewN nq)
      have HB2 := Lib.hid (show Below w.heap.size w (wr.drewN nq) from ⟨HB.out.os, HB.out.tape, HB.out.output, HB.out.size, HB.out.block⟩)
      clear hT HA HB hts hc
      go_wp2
      go_roundw
      case rel => exact ⟨k + 1, by omega, by go_num, by rw [HN.out]; rfl, HA2.out, HB2.out⟩
      case measure => simp [intOf]; omega
    · have hkk : k = 32 := by omega
      subst hkk
      have ht : l.take 32 = l := List.take_of_length_le (by rw [HL.out]; omega)
      rw [ht]
      have HB := Lib.hid hB
      clear hA hB ht hk hlt
      go_wp2
      exact bodyPost_ret (results_tmp rfl _ _ _) rfl ⟨rfl, HB.out⟩
end Go.Proofs.YtmindblfbijaaaaDoor
namespace Go.Proofs.YtmindblfbijaaaaDoor
open Go.RowKit
theorem grownBy_trans {w1 w2 w3 : World} {r : Option Nat} (h : w1.grownBy w2 r) (k : w2.grownBy w3 r) : w1.grownBy w3 r :=
  ⟨k.os.trans h.os, k.tape.trans h.tape, k.output.trans h.output, Nat.le_trans h.size k.size, fun i hi hr => (k.block i (Nat.lt_of_lt_of_le hi h.size) hr).trans (h.block i hi hr)⟩
theorem grownBy_drew {w1 w2 : World} {r : Option Nat} (h : w1.grownBy w2 r) : w1.grownBy w2.drew r := ⟨h.os, h.tape, h.output, h.size, h.block⟩
/-- The block g has cells of the type that it had. -/
def SameT (g : Nat) (w w' : World) : Prop := ∀ cs T, w.heap[g]? = some (.cells cs T) → ∃ cs', w'.heap[g]? = some (.cells cs' T)
theorem SameT.refl (g : Nat) (w : World) : SameT g w w := fun cs _ h => ⟨cs, h⟩
theorem SameT.trans {g : Nat} {a b c : World} (h : SameT g a b) (k : SameT g b c) : SameT g a c := fun cs T hT => by
  obtain ⟨cs', h'⟩ := h cs T hT; exact k cs' T h'
theorem SameT.drew {g : Nat} {a b : World} (h : SameT g a b) : SameT g a b.drew := h
/-- Store of a whole array or struct; the type of the block is kept. -/
theorem wp_store_cellsT {P : Program} {o : Oper} {a : Act} {w : World} {Q : Exit → Act → World → Prop} {K : Act → World → Prop} (hd : o.dst = none) (ty : TypeId) (x y : Operand) (ho : o.op = .store ty x y) (g off : Nat) (hx : a.eval x = .pointer (some ⟨g, off, none⟩))
    (cs : List Value) (hy : a.eval y = .agg cs.toArray) (hT : (P.info? ty).map (·.size) = some cs.length) (h1 : ∀ v ∈ cs, v.oneCell' = true) (cur : List Value) (hA : Arr w g cur) (hfit : off + cs.length ≤ cur.length)
    (h : ∀ w', Arr w' g (lay cur off cs) → w.grownBy w' (some g) → SameT g w w' → K a w') : o.wp P a w K Q := by
  obtain ⟨T, hg⟩ := hA
  have hs : (storeCells ⟨g, off, none⟩ cs).run P w = .ok () (w.setRow g (lay cur off cs).toArray) := by
    have := run_storeCells_at P g off T cs 0 cur.toArray w hg (by simpa using hfit) h1
    simpa [lay] using this
  unfold Oper.wp
  have : (execOp a.eval o).run P w = .ok .skip (w.setRow g (lay cur off cs).toArray) := by
    simp only [execOp, ho, hx, hy]
    simp [Instr.storeAt, Instr.sureAddr, storeVar, Sem.run_bind, Value.cells, run_sizeOf hT, hs, Result.andThen]
  rw [this, Oper.upon_skip, hd]
  exact h _ (Arr.setRow ⟨T, hg⟩ _) (grownBy_setRow _ _ _) (fun cs' T' h' => ⟨_, by
    simp only [World.setRow, Array.getElem?_modify, if_pos, h']; rfl⟩)
def RevS (g : Nat) (w : World) (c0 c1 c2 : List Value) (S : Nat → Bool) (w' : World) : Prop :=
  (w.grownBy w' (some g) ∧ SameT g w w') ∧ Arr w' g (if S 15 then c2 else if S 13 then c1 else c0)
theorem RevS.same {g : Nat} {w w' : World} {c0 c1 c2 : List Value} {S S' : Nat → Bool} {i : Nat} (h : RevS g w c0 c1 c2 S w') (hS : ∀ j, S' j = if j = i then true else S j) (h1 : i ≠ 13) (h2 : i ≠ 15) : RevS g w c0 c1 c2 S' w' := by
  unfold RevS
  rw [hS 15, hS 13, if_neg (Ne.symm h2), if_neg (Ne.symm h1)]
  exact h
set_option maxHeartbeats 400000 in
theorem reverse_any (g cap : Nat) (l : List (List UInt8)) (tail : List Value) (w : World) (hn : l.length ≤ 1000000) (hc : l.length ≤ cap) (hcap : cap ≤ 9223372036854775807) (hA : Arr w g (sums l ++ tail)) (hL : Len32 l) :
    Calls Tryd.prog 39 #[.slice (some ⟨g, 0, none⟩) l.length cap] w fun e w' => e = .returned (.tuple #[]) ∧ Arr w' g (sums l.reverse ++ tail) ∧ w.grownBy w' (some g) ∧ SameT g w w' := by
  have HA := Lib.hid hA; clear hA
  have HL := Lib.hid hL; clear hL
  obtain ⟨n, hN⟩ : ∃ n, n = l.length := ⟨_, rfl⟩
  rw [← hN] at hn hc ⊢
  have HN := Lib.hid hN; clear hN
  go_enter Tryd.func39, Tryd.ntmps39
  go_wp2
  go_loopw [2, 3] (fun i j wr => ∃ k : Nat, k + k ≤ n ∧ i = .int .i64 k ∧ j = .int .i64 ((n : Int) - 1 - k) ∧ (w.grownBy wr (some g) ∧ SameT g w wr) ∧ Arr wr g (sums (flip l k) ++ tail)) (fun i j _ => (intOf j - intOf i + 1).toNat)
  case atStart => exact ⟨0, by omega, rfl, by go_num, ⟨World.grownBy.refl _ _, SameT.refl _ _⟩, by rw [flip_zero]; exact HA.out⟩
  case round =>
    obtain ⟨k, hk, rfl, rfl, hg, hA⟩ := hrel
    by_cases h : (k : Int) < (n : Int) - 1 - k
    · obtain ⟨j, hj⟩ : ∃ j, j = n - 1 - k := ⟨_, rfl⟩
      have ej : (n : Int) - 1 - k = (j : Nat) := by omega
      rw [ej] at h ⊢
      have hjn : j < n := by omega
      have hkn : k < n := by omega
      have HJ := Lib.hid hj
      have HE := Lib.hid ej
      clear hj ej
      obtain ⟨X, hX⟩ : ∃ X, X = flip l k := ⟨_, rfl⟩
      rw [← hX] at hA
      have hXl : X.length = n := by rw [hX, flip_length, HN.out]
      have hX32 : Len32 X := by rw [hX]; exact flip_len32 HL.out k
      have hG := Lib.hid hg
      have HX := Lib.hid hX
      have HXA := Lib.hid hA
      have HXl := Lib.hid hXl
      have HX32 := Lib.hid hX32
      clear hX hA hg hXl hX32
      obtain ⟨A, eA⟩ : ∃ A, A = X.getD j [] := ⟨_, rfl⟩
      obtain ⟨B, eB⟩ : ∃ B, B = X.getD k [] := ⟨_, rfl⟩
      have HA := Lib.hid (show A.length = 32 by rw [eA]; exact HX32.out.get (by rw [HXl.out]; exact hjn))
      have HB := Lib.hid (show B.length = 32 by rw [eB]; exact HX32.out.get (by rw [HXl.out]; exact hkn))
      have EA := Lib.hid eA
      have EB := Lib.hid eB
      clear eA eB
      go_wp2
      refine wp_region_vals [.slice (some ⟨g, 0, none⟩) n cap, .int .i64 k, .slice (some ⟨g, 0, none⟩) n cap, .int .i64 j, .slice (some ⟨g, 0, none⟩) n cap, .int .i64 j, .pointer (some ⟨g, j * 32, none⟩), .agg (u8s A).toArray,
        .slice (some ⟨g, 0, none⟩) n cap, .int .i64 k, .pointer (some ⟨g, k * 32, none⟩), .agg (u8s B).toArray, .pointer (some ⟨g, k * 32, none⟩), undef, .pointer (some ⟨g, j * 32, none⟩), undef]
        (RevS g w (sums X ++ tail) (sums (X.set k A) ++ tail) (sums ((X.set k A).set j B) ++ tail)) (by kernel_rfl) (by kernel_rfl) rfl ?_ ?_ ?_
      · intro S hS
        unfold RevS
        rw [hS 13, hS 15]
        exact ⟨⟨grownBy_drew hG.out.1, hG.out.2.drew⟩, HXA.out⟩
      · refine allFrom_array ⟨?_, ?_, ?_, ?_, ?_, ?_, ?_, ?_, ?_, ?_, ?_, ?_, ?_, ?_, ?_, ?_, trivial⟩ <;> intro S S' a w1 hi hb hcl hs hR hd hS' <;> refine wanted_none rfl ?_
        · have h2 : a.tmps[0]?.getD undef = .slice (some ⟨g, 0, none⟩) n cap := hR.evalD rfl rfl
          go_simp
          exact hs.same hS' (by omega) (by omega)
        · have h2 : a.tmps[2]?.getD undef = .int .i64 k := hR.evalD rfl rfl
          go_simp
          exact hs.same hS' (by omega) (by omega)
        · have h2 : a.tmps[0]?.getD undef = .slice (some ⟨g, 0, none⟩) n cap := hR.evalD rfl rfl
          go_simp
          exact hs.same hS' (by omega) (by omega)
        · have h2 : a.tmps[3]?.getD undef = .int .i64 j := hR.evalD rfl rfl
          go_simp
          exact hs.same hS' (by omega) (by omega)
        · have h2 : a.tmps[0]?.getD undef = .slice (some ⟨g, 0, none⟩) n cap := hR.evalD rfl rfl
          go_simp
          exact hs.same hS' (by omega) (by omega)
        · have h2 : a.tmps[3]?.getD undef = .int .i64 j := hR.evalD rfl rfl
          go_simp
          exact hs.same hS' (by omega) (by omega)
        · have h2 : a.tmps[18]?.getD undef = .slice (some ⟨g, 0, none⟩) n cap := hd ⟨4, .data⟩ (by simp) rfl _ _ rfl rfl
          have h3 : a.tmps[19]?.getD undef = .int .i64 j := hd ⟨5, .data⟩ (by simp) rfl _ _ rfl rfl
          go_simp
          exact hs.same hS' (by omega) (by omega)
        · have h2 : a.tmps[20]?.getD undef = .pointer (some ⟨g, j * 32, none⟩) := hd ⟨6, .data⟩ (by simp) rfl _ _ rfl rfl
          have q13 : S 13 = false := by
            cases hq : S 13 with
            | false => rfl
            | true => have := hcl 13 _ rfl hq ⟨7, .phase⟩ (by simp) rfl; rw [hi] at this; cases this
          have q15 : S 15 = false := by
            cases hq : S 15 with
            | false => rfl
            | true => have := hcl 15 _ rfl hq ⟨13, .chain⟩ (by simp) rfl; rw [q13] at this; cases this
          have hA0 := hs.2
          rw [q13, q15] at hA0
          refine wp_load_cells _ _ rfl g (j * 32) (by simpa [Act.eval] using h2) (u8s A) (by rw [u8s_length, HA.out]; exact agg32) (fun q v hv => hA0.cell (sums_get HX32.out tail (by rw [HXl.out]; assumption) (by rw [← EA.out]; exact hv))) ?_
          exact ⟨rfl, hs.same hS' (by omega) (by omega)⟩
        · have h2 : a.tmps[0]?.getD undef = .slice (some ⟨g, 0, none⟩) n cap := hR.evalD rfl rfl
          go_simp
          exact hs.same hS' (by omega) (by omega)
        · have h2 : a.tmps[2]?.getD undef = .int .i64 k := hR.evalD rfl rfl
          go_simp
          exact hs.same hS' (by omega) (by omega)
        · have h2 : a.tmps[22]?.getD undef = .slice (some ⟨g, 0, none⟩) n cap := hd ⟨8, .data⟩ (by simp) rfl _ _ rfl rfl
          have h3 : a.tmps[23]?.getD undef = .int .i64 k := hd ⟨9, .data⟩ (by simp) rfl _ _ rfl rfl
          go_simp
          exact hs.same hS' (by omega) (by omega)
        · have h2 : a.tmps[24]?.getD undef = .pointer (some ⟨g, k * 32, none⟩) := hd ⟨10, .data⟩ (by simp) rfl _ _ rfl rfl
          have q13 : S 13 = false := by
            cases hq : S 13 with
            | false => rfl
            | true => have := hcl 13 _ rfl hq ⟨11, .phase⟩ (by simp) rfl; rw [hi] at this; cases this
          have q15 : S 15 = false := by
            cases hq : S 15 with
            | false => rfl
            | true => have := hcl 15 _ rfl hq ⟨13, .chain⟩ (by simp) rfl; rw [q13] at this; cases this
          have hA0 := hs.2
          rw [q13, q15] at hA0
          refine wp_load_cells _ _ rfl g (k * 32) (by simpa [Act.eval] using h2) (u8s B) (by rw [u8s_length, HB.out]; exact agg32) (fun q v hv => hA0.cell (sums_get HX32.out tail (by rw [HXl.out]; assumption) (by rw [← EB.out]; exact hv))) ?_
          exact ⟨rfl, hs.same hS' (by omega) (by omega)⟩
        · have h2 : a.tmps[14]?.getD undef = .slice (some ⟨g, 0, none⟩) n cap := hd ⟨0, .data⟩ (by simp) rfl _ _ rfl rfl
          have h3 : a.tmps[15]?.getD undef = .int .i64 k := hd ⟨1, .data⟩ (by simp) rfl _ _ rfl rfl
          go_simp
          exact hs.same hS' (by omega) (by omega)
        · have h2 : a.tmps[26]?.getD undef = .pointer (some ⟨g, k * 32, none⟩) := hd ⟨12, .data⟩ (by simp) rfl _ _ rfl rfl
          have h3 : a.tmps[21]?.getD undef = .agg (u8s A).toArray := hd ⟨7, .data⟩ (by simp) rfl _ _ rfl rfl
          have q15 : S 15 = false := by
            cases hq : S 15 with
            | false => rfl
            | true => have := hcl 15 _ rfl hq ⟨13, .chain⟩ (by simp) rfl; rw [hi] at this; cases this
          have hA0 := hs.2
          have q13 : S 13 = false := hi
          rw [q13, q15] at hA0
          refine wp_store_cellsT rfl _ _ _ rfl g (k * 32) (by simpa [Act.eval] using h2) (u8s A) (by simpa [Act.eval] using h3) (by rw [u8s_length, HA.out]; exact agg32.2) (u8s_one _) _ hA0 (by simp only [Bool.false_eq_true, if_false]; rw [List.length_append, sums_length HX32.out, HXl.out, u8s_length, HA.out]; omega) ?_
          intro w2 hA2 hg2 ht2
          refine ⟨rfl, ⟨grownBy_trans hs.1.1 hg2, hs.1.2.trans ht2⟩, ?_⟩
          have s15 : S' 15 = false := (hS' 15).trans ((if_neg (by decide)).trans q15)
          have s13 : S' 13 = true := (hS' 13).trans (if_pos rfl)
          rw [s15, s13]
          simp only [Bool.false_eq_true, if_false, if_true] at hA2 ⊢
          rwa [sums_lay HX32.out tail (by rw [HXl.out]; exact hkn) HA.out] at hA2
        · have h2 : a.tmps[16]?.getD undef = .slice (some ⟨g, 0, none⟩) n cap := hd ⟨2, .data⟩ (by simp) rfl _ _ rfl rfl
          have h3 : a.tmps[17]?.getD undef = .int .i64 j := hd ⟨3, .data⟩ (by simp) rfl _ _ rfl rfl
          go_simp
          exact hs.same hS' (by omega) (by omega)
        · have h2 : a.tmps[27]?.getD undef = .pointer (some ⟨g, j * 32, none⟩) := hd ⟨14, .data⟩ (by simp) rfl _ _ rfl rfl
          have h3 : a.tmps[25]?.getD undef = .agg (u8s B).toArray := hd ⟨11, .data⟩ (by simp) rfl _ _ rfl rfl
          have q13 : S 13 = true := hb ⟨13, .chain⟩ (by simp) rfl
          have q15 : S 15 = false := hi
          have hA0 := hs.2
          rw [q13, q15] at hA0
          simp only [Bool.false_eq_true, if_false, if_true] at hA0
          have hl3 : (X.set k A).length = n := by rw [List.length_set]; exact HXl.out
          have h32 : Len32 (X.set k A) := HX32.out.set HA.out k
          refine wp_store_cellsT rfl _ _ _ rfl g (j * 32) (by simpa [Act.eval] using h2) (u8s B) (by simpa [Act.eval] using h3) (by rw [u8s_length, HB.out]; exact agg32.2) (u8s_one _) _ hA0 (by rw [List.length_append, sums_length h32, hl3, u8s_length, HB.out]; omega) ?_
          intro w2 hA2 hg2 ht2
          refine ⟨rfl, ⟨grownBy_trans hs.1.1 hg2, hs.1.2.trans ht2⟩, ?_⟩
          have s15 : S' 15 = true := (hS' 15).trans (if_pos rfl)
          rw [s15]
          simp only [if_true]
          rwa [sums_lay h32 tail (by rw [hl3]; exact hjn) HB.out] at hA2
      · intro S w1 hS hs
        have hA0 := hs.2
        rw [hS 15 (by decide)] at hA0
        simp only [if_true] at hA0
        have HG2 := Lib.hid hs.1
        have HA2 := Lib.hid hA0
        clear hS hs hA0
        simp only [putAll, List.map_cons, List.map_nil, List.zip_cons_cons, List.zip_nil_right, Act.put, List.setIfInBounds_toArray, List.set_cons_zero, List.set_cons_succ]
        go_wp2
        go_round
        case rel =>
          refine ⟨k + 1, by have := HE.out; omega, by go_num, by have := HE.out; go_num, HG2.out, ?_⟩
          have hf : flip l (k + 1) = (X.set k A).set j B := by
            have e1 := HN.out
            have e2 := HJ.out
            have e3 := HX.out
            rw [flip_succ l k (by omega), ← e3, ← e1, ← e2, ← EA.out, ← EB.out]
          rw [hf]; exact HA2.out
        case measure => simp [intOf]; omega
    · obtain ⟨u, hu⟩ : ∃ u : Int, u = (n : Int) - 1 - k := ⟨_, rfl⟩
      rw [← hu] at h ⊢
      have hu1 : -1 ≤ u := by omega
      have hu2 : u ≤ n := by omega
      have hfe : flip l k = l.reverse := flip_end l k (by have := HN.out; omega)
      rw [hfe] at hA
      have HA2 := Lib.hid hA
      have HG2 := Lib.hid hg
      clear hu hA hg hfe
      go_wp2
      refine bodyPost_end (v := .tuple #[]) (results_none rfl _ _ _) rfl ?_
      exact ⟨rfl, HA2.out, HG2.out.1, HG2.out.2⟩
theorem reverse_zero (ao : Option Addr) (cap : Nat) (w : World) :
    Calls Tryd.prog 39 #[.slice ao 0 cap] w fun e w' => e = .returned (.tuple #[]) ∧ w = w' := by
  go_enter Tryd.func39, Tryd.ntmps39
  go_wp2
  go_rounds 1
  exact bodyPost_end (v := .tuple #[]) (results_none rfl _ _ _) rfl ⟨rfl, rfl⟩
end Go.Proofs.YtmindblfbijaaaaDoor
namespace Go.Proofs.YtmindblfbijaaaaDoor
open Go.RowKit
theorem lay_step (cur : List Value) (k : Nat) (c : Value) (r : List Value) (h : k < cur.length) : lay (cur.set k c) (k + 1) r = lay cur k (c :: r) := by
  unfold lay
  rw [List.set_eq_take_append_cons_drop, if_pos h]
  have h1 : (cur.take k).length = k := by rw [List.length_take]; omega
  have e1 : (cur.take k ++ c :: cur.drop (k + 1)).take (k + 1) = cur.take k ++ [c] := by
    rw [List.take_append, h1, List.take_of_length_le (by omega), show k + 1 - k = 1 by omega]; simp
  have e2 : (cur.take k ++ c :: cur.drop (k + 1)).drop (k + 1 + r.length) = cur.drop (k + (c :: r).length) := by
    rw [List.drop_append, h1, List.drop_of_length_le (by omega), show k + 1 + r.length - k = r.length + 1 by omega, List.drop_succ_cons, List.drop_drop, List.nil_append]
    congr 1; simp; omega
  rw [e1, e2]
  simp
theorem foldl_lay (off : Nat) : ∀ (l : List Value) (k : Nat) (arr : Array Value), off + k + l.length ≤ arr.size → (l.zipIdx k).foldl (fun cs (x : Value × Nat) => cs.setIfInBounds (off + x.2) x.1) arr = (lay arr.toList (off + k) l).toArray := by
  intro l
  induction l with
  | nil => intro k arr _; simp [lay]
  | cons c r ih =>
    intro k arr h
    simp only [List.zipIdx_cons, List.foldl_cons]
    rw [ih (k + 1) _ (by simp at h ⊢; omega)]
    congr 1
    have hk : off + k < arr.toList.length := by simp at h ⊢; omega
    rw [Array.toList_setIfInBounds, ← lay_step _ _ _ _ hk]
    rfl
section
variable {P : Program} {ops : Array Oper} {rest : List Oper} {o : Oper} {a : Act} {w : World} {Q : Exit → Act → World → Prop} {t e : TypeId} {z : Value} {size bytes : Nat}
theorem wp_build_one {K : Act → World → Prop} (hE : ElemT P t e z size bytes) (x : Operand) (ho : o.op = .buildSlice t 1 #[(0, x)]) (cs : List Value) (hx : a.eval x = .agg cs.toArray) (hcs : cs.length = size) (hsz : size ≤ 16777216)
    (h : K (a.put o.dst (.slice (some ⟨w.heap.size, 0, none⟩) 1 1)) (w.alloc (.cells cs.toArray e))) : o.wp P a w K Q := by
  obtain ⟨i0, hi, hz0, hz1, hz2⟩ := info_parts hE.info
  have hs : (P.info? e).map (·.size) = some size := by rw [hi]; simp [hz1]
  have hz : ∀ w, (zeroValue e).run P w = .ok z w := by
    intro w; simp [zeroValue, typeInfo, hi, hz0]
  have hf : ∀ Z : Array Value, Z.size = size → Instr.fill (fun i => some (i * size, size)) Z [(0, Value.agg cs.toArray)] = some cs.toArray := by
    intro Z hZ
    have hlay : List.foldl (fun cs (x : Value × Nat) => cs.setIfInBounds (0 + x.2) x.1) Z cs.zipIdx = cs.toArray := by
      rw [foldl_lay 0 cs 0 Z (by omega), lay_whole _ _ (by rw [Array.length_toList]; omega)]
    simp only [Nat.zero_add] at hlay
    have hc : (Value.agg cs.toArray).cells = cs.toArray := rfl
    unfold Instr.fill
    simp [hc, hcs, hZ, Instr.fill, hlay]
  unfold Oper.wp
  have : (execOp a.eval o).run P w = .ok (.value (.slice (some ⟨w.heap.size, 0, none⟩) 1 1)) (w.alloc (.cells cs.toArray e)) := by
    have hp := hE.pos
    simp only [execOp, ho]
    simp only [List.map_toArray, List.map_cons, List.map_nil, hx]
    simp only [Instr.buildSlice]
    have hfs := hf ((Array.range size).map (z.cells[· % z.cells.size]!)) (by simp)
    simp [Sem.run_bind, run_underlying hE.und, run_sizeOf hs, hz, Result.andThen, show ¬ (16777216 < size) by omega, show ¬ (size = 0) by omega, newRow, newObj, hfs]
    rfl
  rw [this]; exact h
theorem wpList_build_one (hE : ElemT P t e z size bytes) (hgd : o.guard = none) (x : Operand) (ho : o.op = .buildSlice t 1 #[(0, x)]) (cs : List Value) (hx : a.eval x = .agg cs.toArray) (hcs : cs.length = size) (hsz : size ≤ 16777216)
    (h : wpList P ops Q rest (a.put o.dst (.slice (some ⟨w.heap.size, 0, none⟩) 1 1)) (w.alloc (.cells cs.toArray e))) : wpList P ops Q (o :: rest) a w :=
  wpList_plain hgd fun _ hK => wp_build_one hE x ho cs hx hcs hsz (hK _ _ h)
end
end Go.Proofs.YtmindblfbijaaaaDoor
namespace Go.Proofs.YtmindblfbijaaaaDoor
open Go.RowKit
theorem path_len32 : ∀ (k : Nat) (l : List (List UInt8)) (i : Nat), l.length = k → Len32 (Sha.path l i) := by
  intro k
  induction k using Nat.strongRecOn with
  | _ k ih =>
    intro l i hk
    rcases Nat.lt_or_ge l.length 2 with h | h
    · rw [Sha.path_one _ h]; intro x hx; cases hx
    · have c1 := Sha.cut_lt h
      have c2 := Sha.cut_pos l.length
      rcases Nat.lt_or_ge i (Sha.cut l.length) with hlt | hge
      · rw [Sha.path_low h hlt]
        intro x hx
        rcases List.mem_cons.1 hx with rfl | h'
        · exact Sha.root_len _
        · exact ih _ (by rw [List.length_take]; omega) _ _ rfl x h'
      · rw [Sha.path_high h hge]
        intro x hx
        rcases List.mem_cons.1 hx with rfl | h'
        · exact Sha.root_len _
        · exact ih _ (by rw [List.length_drop]; omega) _ _ rfl x h'
theorem path_length_le : ∀ (k : Nat) (l : List (List UInt8)) (i : Nat), l.length = k → (Sha.path l i).length ≤ k := by
  intro k
  induction k using Nat.strongRecOn with
  | _ k ih =>
    intro l i hk
    rcases Nat.lt_or_ge l.length 2 with h | h
    · rw [Sha.path_one _ h]; simp
    · have c1 := Sha.cut_lt h
      have c2 := Sha.cut_pos l.length
      rcases Nat.lt_or_ge i (Sha.cut l.length) with hlt | hge
      · rw [Sha.path_low h hlt]
        have := ih _ (by rw [List.length_take]; omega) (l.take (Sha.cut l.length)) i rfl
        rw [List.length_take] at this
        simp only [List.length_cons]; omega
      · rw [Sha.path_high h hge]
        have := ih _ (by rw [List.length_drop]; omega) (l.drop (Sha.cut l.length)) (i - Sha.cut l.length) rfl
        rw [List.length_drop] at this
        simp only [List.length_cons]; omega
theorem grown_of_below {w w' : World} {r : Option Nat} (hb : Below w.heap.size w w') : w.grownBy w' r := ⟨hb.os, hb.tape, hb.output, hb.size, fun i hi _ => hb.block i hi⟩
theorem own_below {w w' : World} {base size n : Nat} {e : TypeId} {v : Value} {xs : List Value} (h : w.ownsRow base e size v n xs) (hb : Below w.heap.size w w') : w'.ownsRow base e size v n xs := by
  cases hq : v.ownBlock with
  | none => exact h.kept (grown_of_below (r := none) hb) (.inl hq)
  | some k => exact h.kept (grown_of_below (r := none) hb) (.inr (by rw [hq]; simp))
theorem elSum : ElemT Tryd.prog 32 28 (.agg (u8s (List.replicate 32 0)).toArray) 32 32 := ⟨rfl, rfl, rfl, by omega⟩
/-- A place that is not there. -/
theorem proof_err (v : Value) (ls : List (List UInt8)) (i : Int) (w : World) (hB : BB w v ls) (hi : i < 0 ∨ (ls.length : Int) ≤ i) (hF : ls.length ≤ 1000000) :
    Calls Tryd.prog 20 #[v, .int .i64 i] w fun e w' => e = .returned (.tuple #[.slice none 0 0, .int .i64 1]) ∧ w = w' := by
  obtain ⟨vs, hvs, hS, hel⟩ := hB
  obtain ⟨ao, cap, rfl⟩ := sl_lit hS
  clear hS hel hvs
  obtain ⟨n, hN⟩ : ∃ n, n = ls.length := ⟨_, rfl⟩
  rw [← hN] at hi hF ⊢
  clear hN
  by_cases h0 : i < 0
  · go_enter Tryd.func20, Tryd.ntmps20
    go_wp2
    exact bodyPost_ret (results_tmp2 rfl _ _ _) rfl ⟨rfl, rfl⟩
  · have h1 : (n : Int) ≤ i := by omega
    go_enter Tryd.func20, Tryd.ntmps20
    go_wp2
    exact bodyPost_ret (results_tmp2 rfl _ _ _) rfl ⟨rfl, rfl⟩
set_option maxHeartbeats 400000 in
theorem proof_any (v : Value) (ls : List (List UInt8)) (i : Nat) (w : World) (hg : Glob w) (hB : BB w v ls) (hF : Fit ls) (hi : i < ls.length) :
    Calls Tryd.prog 20 #[v, .int .i64 i] w fun e w' => ∃ v', e = .returned (.tuple #[v', .int .i64 0]) ∧ w'.ownsRow w.heap.size 28 32 v' (Sha.proof ls i).length (sums (Sha.proof ls i)) ∧ Below w.heap.size w w' := by
  obtain ⟨vs, hvs, hS, hel⟩ := id hB
  obtain ⟨ao, cap, rfl⟩ := sl_lit hS
  have hn := hF.1
  have HG := Lib.hid hg
  have HB := Lib.hid hB
  have HF := Lib.hid hF
  clear hg hB hF hS hel hvs
  obtain ⟨n, hN⟩ : ∃ n, n = ls.length := ⟨_, rfl⟩
  rw [← hN] at hi hn HB ⊢
  have HN := Lib.hid hN; clear hN
  go_enter Tryd.func20, Tryd.ntmps20
  go_wp2
  have hd1 : decide (n ≤ i) = false := decide_eq_false (by omega)
  simp only [hd1, Bool.or_false]
  clear hd1
  go_loopw [0, 1, 6] (fun x y o wr => ∃ (l' : List (List UInt8)) (i' : Nat) (acc : List (List UInt8)), Sha.path ls i = acc ++ Sha.path l' i' ∧ (∃ ao cap, x = .slice ao l'.length cap) ∧ BB w x l' ∧ Fit l' ∧ i' < l'.length ∧ l'.length + acc.length ≤ n ∧ y = .int .i64 i' ∧
    wr.ownsRow w.heap.size 28 32 o acc.length (sums acc) ∧ Below w.heap.size w wr) (fun x _ _ _ => slLen x)
  case atStart => exact ⟨ls, i, [], rfl, ⟨ao, cap, by rw [HN.out]⟩, HB.out, HF.out, by have := HN.out; omega, by simp; have := HN.out; omega, rfl, World.ownsRow_nil _ _ _ _, Below.refl _ _⟩
  case round =>
    obtain ⟨l', i', acc, hpath, ⟨ao', cap', rfl⟩, hBB, hF', hi', hle, rfl, hown, hbel⟩ := hrel
    rcases Nat.lt_or_ge l'.length 2 with h2 | h2
    · have hacc : Sha.path ls i = acc := by rw [hpath, Sha.path_one _ h2]; simp
      have hacc32 : Len32 acc := by rw [← hacc]; exact path_len32 _ _ _ rfl
      have hpr : Sha.proof ls i = acc.reverse := by unfold Sha.proof; rw [hacc]
      obtain ⟨n', hN'⟩ : ∃ n', n' = l'.length := ⟨_, rfl⟩
      rw [← hN'] at h2 hle ⊢
      have HP := Lib.hid hpr
      have H32 := Lib.hid hacc32
      have HBel := Lib.hid hbel
      have HOwn := Lib.hid hown
      clear hacc hpr hacc32 hbel hown hpath hBB hF' hi' hN'
      rcases Nat.eq_zero_or_pos acc.length with h0 | h0
      · have hnil : acc = [] := List.length_eq_zero_iff.1 h0
        subst hnil
        have hu : u6 = .slice none 0 0 ∨ ∃ g cp, u6 = .slice (some ⟨g, 0, none⟩) 0 cp := by
          rcases HOwn.out.2 with ⟨h, _⟩ | ⟨g, cp, cur, h, _⟩
          · exact .inl h
          · exact .inr ⟨g, cp, h⟩
        have ho := HOwn.out
        obtain ⟨ao2, cp2, rfl⟩ : ∃ ao cp, u6 = .slice ao 0 cp := by
          rcases hu with h | ⟨g, cp, h⟩
          · exact ⟨none, 0, h⟩
          · exact ⟨_, cp, h⟩
        clear hu h0 ho
        go_wp2_with (go_at_call 39; refine Hid.out ?_)
        refine stop ?_
        refine (reverse_zero ao2 cp2 _).mono ?_
        rintro e w2 ⟨rfl, rfl⟩
        go_wp2
        refine bodyPost_ret (results_tmp2 rfl _ _ _) rfl ⟨_, rfl, ?_, HBel.out⟩
        rw [HP.out]
        exact HOwn.out
      · obtain ⟨k, hk⟩ : ∃ k, acc.length = k + 1 := ⟨acc.length - 1, by omega⟩
        have ho := HOwn.out
        rw [hk] at ho
        obtain ⟨g, cp, rfl, hg1, hg2⟩ := own_succ ho
        rw [← hk] at ho ⊢
        obtain ⟨cu0, hgt⟩ : ∃ cs, wr.heap[g]? = some (.cells cs 28) := by
          rcases ho.2 with ⟨h, _⟩ | ⟨g', cp', cu, h, _, h2, _⟩
          · cases h
          · simp only [Value.slice.injEq, Option.some.injEq, Addr.mk.injEq] at h
            obtain ⟨⟨rfl, _⟩, _⟩ := h
            exact ⟨cu, h2⟩
        obtain ⟨cur, hA, htk, hcap1, hcap2, hcl⟩ := own_arr ho
        have hcur : cur = sums acc ++ cur.drop (acc.length * 32) := by rw [← htk, List.take_append_drop]
        rw [hcur] at hA
        obtain ⟨tl, htl⟩ : ∃ tl, tl = cur.drop (acc.length * 32) := ⟨_, rfl⟩
        rw [← htl] at hA
        have HA := Lib.hid hA
        have htl2 : tl.length = cp * 32 - acc.length * 32 := by rw [htl, List.length_drop, hcl]
        have HTL := Lib.hid htl2
        clear hA hcur htk htl hcl ho hk htl2
        go_wp2_with (go_at_call 39; refine Hid.out ?_)
        refine stop ?_
        refine (reverse_any g cp acc tl _ (by omega) (by omega) hcap2 HA.out H32.out).mono ?_
        rintro e w2 ⟨rfl, hA2, hgr, hst⟩
        have HT := Lib.hid (hst _ _ hgt)
        clear hst hgt
        have HB2 := Lib.hid (HBel.out.grown hgr HBel.out.size (by intro k hk; cases hk; exact hg1))
        have HA2 := Lib.hid hA2
        clear hA2 hgr
        go_wp2
        refine bodyPost_ret (results_tmp2 rfl _ _ _) rfl ⟨_, rfl, ?_, HB2.out⟩
        have hl : (Sha.proof ls i).length = acc.length := by rw [HP.out, List.length_reverse]
        rw [hl, HP.out]
        obtain ⟨cs', hcs'⟩ := HT.out
        obtain ⟨T0, hT0⟩ := HA2.out
        have hee := hT0.symm.trans hcs'
        simp only [Option.some.injEq, Obj.cells.injEq] at hee
        obtain ⟨hc0, rfl, _⟩ := hee
        have hls : (sums acc.reverse).length = acc.length * 32 := by rw [sums_length H32.out.reverse, List.length_reverse]
        refine ⟨hls, .inr ⟨g, cp, _, rfl, hg1, hT0, hcap1, ?_, ?_, ?_⟩⟩
        · unfold maxLen; omega
        · have := HTL.out; simp [hls]; omega
        · simp [hls]
    · obtain ⟨b, off, rfl⟩ : ∃ b off, ao' = some ⟨b, off, none⟩ := by
        obtain ⟨vs, hvs, hS, hel⟩ := hBB
        obtain ⟨b, o, cap, e, _⟩ := sl_addr hS (by omega)
        simp only [Value.slice.injEq] at e
        exact ⟨b, o, e.1⟩
      have hcap : l'.length ≤ cap' ∧ cap' ≤ 9223372036854775807 := by
        obtain ⟨vs, hvs, hS, hel⟩ := hBB
        obtain ⟨b, o, cap, e, h1, h2, _⟩ := sl_addr hS (by omega)
        simp only [Value.slice.injEq] at e
        obtain ⟨_, _, rfl⟩ := e
        exact ⟨h1, h2⟩
      have hn' := hF'.1
      have c1 := Sha.cut_lt h2
      have c0 := Sha.cut_pos l'.length
      rcases Nat.lt_or_ge i' (Sha.cut l'.length) with hlt | hge
      · have hp := Sha.path_low h2 hlt
        have hBd := bb_drop hBB (Sha.cut l'.length) (by omega)
        have hBt := bb_take hBB (Sha.cut l'.length) (by omega)
        have HP := Lib.hid hp
        have HBd := Lib.hid hBd
        have HBt := Lib.hid hBt
        have HF' := Lib.hid hF'
        have HPath := Lib.hid hpath
        have HOwn := Lib.hid hown
        have HBel := Lib.hid hbel
        have HLe := Lib.hid hle
        clear hp hBd hBt hF' hpath hown hbel hBB hle
        obtain ⟨n', hN'⟩ : ∃ n', n' = l'.length := ⟨_, rfl⟩
        obtain ⟨m, hM⟩ : ∃ m, m = Sha.cut n' := ⟨_, rfl⟩
        rw [← hN'] at hi' h2 hn' c1 c0 hlt hcap HP HBd HBt HLe ⊢
        rw [← hM] at c1 c0 hlt HP HBd HBt
        have HM := Lib.hid hM
        have HN' := Lib.hid hN'
        clear hM hN'
        obtain ⟨hc1, hc2⟩ := hcap
        go_wp2_with (go_at_call 38; refine Hid.out ?_)
        refine stop ?_
        refine (cut_any n' _ h2 (by omega)).mono ?_
        rintro e w1 ⟨rfl, rfl⟩
        rw [← HM.out]
        go_wp2_with (go_at_call 18; refine Hid.out ?_)
        refine stop ?_
        refine (root_any _ _ _ _ rfl (HG.out.below' HBel.out) (HBd.out.below HBel.out) (HF'.out.drop m)).mono ?_
        rintro e w1 ⟨rfl, hb1⟩
        have HO1 := Lib.hid (own_below HOwn.out hb1)
        go_wp2_with (first | refine wpList_build_one elSum rfl _ rfl _ rfl (by rw [root_length]) (by omega) ?_ | (at_builtin; refine Hid.out ?_))
        refine stop ?_
        have HA1 := Lib.hid (Arr.new w1 (u8s (Sha.root (l'.drop m))) 28)
        refine wpList_push elSum rfl _ _ rfl w.heap.size _ acc.length (sums acc) rfl (own_below HO1.out ((Below.refl _ _).alloc (Nat.le_refl _) _)) _ rfl _ HA1.out (by rw [root_length]) (u8s_one _) (by have := HLe.out; omega) (by have := HLe.out; omega) (by have := HBel.out.size; have := hb1.size; simp; omega) ?_
        intro g' cp w2 hown2 hg2 hb2 hlt2
        have hB2 : Below w.heap.size w w2 := ((HBel.out.trans (hb1.mono HBel.out.size)).alloc (Nat.le_trans HBel.out.size hb1.size) _).grown hg2 (by have := HBel.out.size; have := hb1.size; simp; omega) (fun k hk => (HO1.out.lt k hk).1)
        have HB2 := Lib.hid hB2
        have HO2 := Lib.hid hown2
        clear hB2 hown2 hg2 HA1 HO1 hb1 hlt2 hb2 HOwn HBel
        go_wp2
        go_roundw
        case rel =>
          have e1 := HN'.out
          have hlk : (l'.take m).length = m := by simp; omega
          refine ⟨l'.take m, i', acc ++ [Sha.root (l'.drop m)], by rw [HPath.out, HP.out]; simp, ⟨_, _, by rw [hlk]⟩, HBt.out, HF'.out.take m, by rw [hlk]; omega, by rw [hlk, List.length_append]; have := HLe.out; simp; omega, by go_num, ?_, HB2.out⟩
          have := HO2.out
          rw [← sums_snoc] at this
          simpa using this
        case measure => simp [slLen]; omega
      · have hp := Sha.path_high h2 hge
        have hBd := bb_drop hBB (Sha.cut l'.length) (by omega)
        have hBt := bb_take hBB (Sha.cut l'.length) (by omega)
        have HP := Lib.hid hp
        have HBd := Lib.hid hBd
        have HBt := Lib.hid hBt
        have HF' := Lib.hid hF'
        have HPath := Lib.hid hpath
        have HOwn := Lib.hid hown
        have HBel := Lib.hid hbel
        have HLe := Lib.hid hle
        clear hp hBd hBt hF' hpath hown hbel hBB hle
        obtain ⟨n', hN'⟩ : ∃ n', n' = l'.length := ⟨_, rfl⟩
        obtain ⟨m, hM⟩ : ∃ m, m = Sha.cut n' := ⟨_, rfl⟩
        rw [← hN'] at hi' h2 hn' c1 c0 hge hcap HP HBd HBt HLe ⊢
        rw [← hM] at c1 c0 hge HP HBd HBt
        have HM := Lib.hid hM
        have HN' := Lib.hid hN'
        clear hM hN'
        obtain ⟨hc1, hc2⟩ := hcap
        go_wp2_with (go_at_call 38; refine Hid.out ?_)
        refine stop ?_
        refine (cut_any n' _ h2 (by omega)).mono ?_
        rintro e w1 ⟨rfl, rfl⟩
        rw [← HM.out]
        go_wp2_with (go_at_call 18; refine Hid.out ?_)
        refine stop ?_
        refine (root_any _ _ _ _ rfl (HG.out.below' HBel.out) (HBt.out.below HBel.out) (HF'.out.take m)).mono ?_
        rintro e w1 ⟨rfl, hb1⟩
        have HO1 := Lib.hid (own_below HOwn.out hb1)
        go_wp2_with (first | refine wpList_build_one elSum rfl _ rfl _ rfl (by rw [root_length]) (by omega) ?_ | (at_builtin; refine Hid.out ?_))
        refine stop ?_
        have HA1 := Lib.hid (Arr.new w1 (u8s (Sha.root (l'.take m))) 28)
        refine wpList_push elSum rfl _ _ rfl w.heap.size _ acc.length (sums acc) rfl (own_below HO1.out ((Below.refl _ _).alloc (Nat.le_refl _) _)) _ rfl _ HA1.out (by rw [root_length]) (u8s_one _) (by have := HLe.out; omega) (by have := HLe.out; omega) (by have := HBel.out.size; have := hb1.size; simp; omega) ?_
        intro g' cp w2 hown2 hg2 hb2 hlt2
        have hB2 : Below w.heap.size w w2 := ((HBel.out.trans (hb1.mono HBel.out.size)).alloc (Nat.le_trans HBel.out.size hb1.size) _).grown hg2 (by have := HBel.out.size; have := hb1.size; simp; omega) (fun k hk => (HO1.out.lt k hk).1)
        have HB2 := Lib.hid hB2
        have HO2 := Lib.hid hown2
        clear hB2 hown2 hg2 HA1 HO1 hb1 hlt2 hb2 HOwn HBel
        go_wp2
        go_roundw
        case rel =>
          have e1 := HN'.out
          have hlk : (l'.drop m).length = n' - m := by simp; omega
          refine ⟨l'.drop m, i' - m, acc ++ [Sha.root (l'.take m)], by rw [HPath.out, HP.out]; simp, ⟨_, _, by rw [hlk]⟩, HBd.out, HF'.out.drop m, by rw [hlk]; omega, by rw [hlk, List.length_append]; have := HLe.out; simp; omega, by go_num, ?_, HB2.out⟩
          have := HO2.out
          rw [← sums_snoc] at this
          simpa using this
        case measure => simp [slLen]; omega
end Go.Proofs.YtmindblfbijaaaaDoor
namespace Go.Proofs.YtmindblfbijaaaaDoor
open Go.RowKit
def abc : List (List UInt8) := [[97], [98], [99]]
def abcProof : List (List UInt8) := [Sha.pair (Sha.leaf [97]) (Sha.leaf [98])]
theorem cut2 : Sha.cut 2 = 1 := by decide
theorem cut3 : Sha.cut 3 = 2 := by decide
theorem root_ab : Sha.root [[97], [98]] = Sha.pair (Sha.leaf [97]) (Sha.leaf [98]) := by
  rw [Sha.root_cut (by decide)]
  simp only [List.length_cons, List.length_nil, Nat.zero_add, Nat.reduceAdd, cut2, List.take_succ_cons, List.take_zero, List.drop_succ_cons, List.drop_zero, Sha.root_one]
theorem root_abc : Sha.root abc = Sha.pair (Sha.pair (Sha.leaf [97]) (Sha.leaf [98])) (Sha.leaf [99]) := by
  unfold abc
  rw [Sha.root_cut (by decide)]
  simp only [List.length_cons, List.length_nil, Nat.zero_add, Nat.reduceAdd, cut3, List.take_succ_cons, List.take_zero, List.drop_succ_cons, List.drop_zero, Sha.root_one, root_ab]
theorem proof_abc : Sha.proof abc 2 = abcProof := by
  unfold Sha.proof abc
  rw [Sha.path_high (by decide) (by decide)]
  simp only [List.length_cons, List.length_nil, Nat.zero_add, Nat.reduceAdd, cut3, List.take_succ_cons, List.take_zero, List.drop_succ_cons, List.drop_zero]
  rw [Sha.path_one _ (by decide), root_ab]
  rfl
theorem check_abc : Sha.check (Sha.root abc) 3 2 [99] abcProof = true := by
  have := Sha.check_proof (l := abc) (i := 2) (b := [99]) rfl
  rw [proof_abc] at this
  exact this
theorem check_abc1 : Sha.check (Sha.root abc) 3 1 [99] abcProof = false := by
  unfold Sha.check
  rw [if_neg (by decide)]
  have : (Sha.climb [99] abcProof.reverse (3 : Int).toNat (1 : Int).toNat).2 = false := by
    unfold abcProof
    simp only [List.reverse_cons, List.reverse_nil, List.nil_append, Sha.climb]
    rfl
  rw [this]; rfl
set_option maxRecDepth 100000 in
theorem hex_nil : hexB (Sha.sum []) = { data := #[101, 51, 98, 48, 99, 52, 52, 50, 57, 56, 102, 99, 49, 99, 49, 52, 57, 97, 102, 98, 102, 52, 99, 56, 57, 57, 54, 102, 98, 57, 50, 52, 50, 55, 97, 101, 52, 49, 101, 52, 54, 52, 57, 98, 57, 51, 52, 99, 97, 52, 57, 53, 57, 57, 49, 98, 55, 56, 53, 50, 98, 56, 53, 53] } := by decide +kernel
set_option maxRecDepth 100000 in
theorem hex_abc : hexB (Sha.sum [97, 98, 99]) = { data := #[98, 97, 55, 56, 49, 54, 98, 102, 56, 102, 48, 49, 99, 102, 101, 97, 52, 49, 52, 49, 52, 48, 100, 101, 53, 100, 97, 101, 50, 50, 50, 51, 98, 48, 48, 51, 54, 49, 97, 51, 57, 54, 49, 55, 55, 97, 57, 99, 98, 52, 49, 48, 102, 102, 54, 49, 102, 50, 48, 48, 49, 53, 97, 100] } := by decide +kernel
set_option maxRecDepth 100000 in
theorem hex_root : hexB (Sha.root abc) = { data := #[51, 54, 54, 52, 50, 101, 55, 51, 99, 50, 53, 52, 48, 97, 98, 49, 50, 49, 101, 51, 97, 54, 98, 102, 57, 53, 52, 53, 98, 48, 97, 50, 52, 57, 56, 50, 99, 100, 56, 51, 48, 101, 98, 49, 51, 100, 51, 99, 100, 49, 57, 100, 101, 51, 99, 101, 54, 99, 48, 50, 49, 101, 99, 49] } := by
  rw [root_abc]; decide +kernel
set_option maxRecDepth 100000 in
theorem hex_proof : hexB (Sha.pair (Sha.leaf [97]) (Sha.leaf [98])) = { data := #[98, 49, 51, 55, 57, 56, 53, 102, 102, 52, 56, 52, 102, 98, 54, 48, 48, 100, 98, 57, 51, 49, 48, 55, 99, 55, 55, 98, 48, 51, 54, 53, 99, 56, 48, 100, 55, 56, 102, 53, 98, 52, 50, 57, 100, 101, 100, 48, 102, 100, 57, 55, 51, 54, 49, 100, 48, 55, 55, 57, 57, 57, 101, 98] } := by decide +kernel
end Go.Proofs.YtmindblfbijaaaaDoor
namespace Go.Proofs.YtmindblfbijaaaaDoor
open Go.RowKit
theorem wpQuiet_load_cells {P : Program} {ops : Array Oper} {C : World → Prop} {Q : Act → Prop} {a : Act} {o : Oper} {rest : List Oper} (hw : Region.wanted o (yielded ops a.tmps) = true) (ty : TypeId) (x : Operand) (ho : o.op = .load ty x) (g off : Nat) (hx : a.eval x = .pointer (some ⟨g, off, none⟩))
    (cs : List Value) (hT : AggT P ty cs.length) (hc : ∀ w, C w → ∀ j v, cs[j]? = some v → w.cell? ⟨g, off + j, none⟩ = some v) (h : wpQuiet P ops C Q rest (a.put o.dst (.agg cs.toArray))) : wpQuiet P ops C Q (o :: rest) a := by
  refine BigFrame.wpQuiet_want hw fun K hK => ⟨.agg cs.toArray, fun w hCw => ?_, hK _ h⟩
  have hl : (loadCells ⟨g, off, none⟩ cs.length).run P w = .ok cs.toArray w :=
    run_loadCells_list (P := P) w ⟨g, off, none⟩ cs (fun j v hv => by rw [addr_add]; exact hc w hCw j v hv)
  unfold Oper.quietAt
  have : (execOp a.eval o).run P w = .ok (.value (.agg cs.toArray)) w := by
    simp only [execOp, ho, hx]
    simp [Instr.loadAt, Instr.sureAddr, loadVar, Sem.run_bind, hT.1, run_sizeOf hT.2, hl, Result.andThen]
  rw [this]
  exact ⟨rfl, rfl⟩
theorem sl_new (w : World) {n : Nat} (hn : n = w.heap.size) (cs : List Value) (T : TypeId) (fr : Nat × Nat) (h : cs.length ≤ 1000000) : Sl (w.alloc (.cells cs.toArray T fr)) (.slice (some ⟨n, 0, none⟩) cs.length cs.length) cs.length cs := by
  subst hn
  refine ⟨_, _, rfl, Nat.le_refl _, by omega, fun e => (by cases e), fun b o s e => ?_⟩
  simp only [Option.some.injEq, Addr.mk.injEq] at e
  obtain ⟨rfl, rfl, rfl⟩ := e
  refine ⟨fun _ => rfl, fun j u hj => ?_⟩
  have hb : (w.alloc (.cells cs.toArray T fr)).heap[w.heap.size]? = some (.cells cs.toArray T fr) := heap_alloc_new w _
  rw [Nat.zero_add]
  simp only [World.cell?, hb]
  simpa using hj
theorem conv_const (w : World) (C : Array Value) (n c : Nat) :
    (convert 22 22 (.slice (some ⟨w.heap.size, 0, none⟩) n c)).run Tryd.prog (w.alloc (.cells C 5)) = .ok (.slice (some ⟨w.heap.size, 0, none⟩) n c) (w.alloc (.cells C 5 (C.size, C.size + 1))) :=
  Lib.run_convert_bytes_const w _ _ C n c Tryd.underlying22 (by kernel_rfl)
set_option maxHeartbeats 400000 in
theorem sanity_any (w : World) (hg : Glob w) :
    Calls Tryd.prog 10 #[] w fun e w' => e = .returned (.bool true) ∧ Below w.heap.size w w' := by
  have HG := Lib.hid hg; clear hg
  have q1 := conv_const w #[.int .u8 97] 1 1
  have q2 := conv_const (w.alloc (.cells #[.int .u8 97] 5 (1, 1 + 1))) #[.int .u8 98] 1 1
  have q3 := conv_const ((w.alloc (.cells #[.int .u8 97] 5 (1, 1 + 1))).alloc (.cells #[.int .u8 98] 5 (1, 1 + 1))) #[.int .u8 99] 1 1
  simp only [World.size_alloc, List.size_toArray, List.length_cons, List.length_nil, Nat.zero_add] at q1 q2 q3
  go_enter Tryd.func10, Tryd.ntmps10
  go_wp2_with (go_at_call 20; refine Hid.out ?_)
  refine stop ?_
  clear q1 q2 q3
  obtain ⟨W0, hW0⟩ : ∃ W : World, W = ((((w.alloc (.cells (u8s [97]).toArray 5 (1, 2))).alloc (.cells (u8s [98]).toArray 5 (1, 2))).alloc (.cells (u8s [99]).toArray 5 (1, 2))).alloc (.cells #[.slice (some ⟨w.heap.size, 0, none⟩) 1 1, .slice (some ⟨w.heap.size + 1, 0, none⟩) 1 1, .slice (some ⟨w.heap.size + 1 + 1, 0, none⟩) 1 1] 22)) := ⟨_, rfl⟩
  have hB0 : Below w.heap.size w W0 := by rw [hW0]; exact (((((Below.refl _ _).alloc (Nat.le_refl _) _).alloc (by simp) _).alloc (by simp <;> omega) _).alloc (by simp <;> omega) _)
  have hL0 : Arr W0 (w.heap.size + 1 + 1 + 1) [.slice (some ⟨w.heap.size, 0, none⟩) 1 1, .slice (some ⟨w.heap.size + 1, 0, none⟩) 1 1, .slice (some ⟨w.heap.size + 1 + 1, 0, none⟩) 1 1] := by rw [hW0]; exact Arr.newAt (by simp) [_, _, _] _
  have hSc : Sl W0 (.slice (some ⟨w.heap.size + 1 + 1, 0, none⟩) 1 1) 1 (u8s [99]) := by rw [hW0]; exact (sl_new _ (by simp) (u8s [99]) _ _ (by decide)).below ((Below.refl _ _).alloc (Nat.le_refl _) _)
  have hBB0 : BB W0 (.slice (some ⟨w.heap.size + 1 + 1 + 1, 0, none⟩) 3 3) abc := by
    refine bb_three hL0 ?_ ?_ hSc
    · rw [hW0]; exact (sl_new w rfl (u8s [97]) _ _ (by decide)).below ((((Below.refl _ _).alloc (Nat.le_refl _) _).alloc (by simp) _).alloc (by simp <;> omega) _)
    · rw [hW0]; exact (sl_new _ (by simp) (u8s [98]) _ _ (by decide)).below (((Below.refl _ _).alloc (Nat.le_refl _) _).alloc (by simp) _)
  change Calls _ _ _ ((((w.alloc (.cells (u8s [97]).toArray 5 (1, 2))).alloc (.cells (u8s [98]).toArray 5 (1, 2))).alloc (.cells (u8s [99]).toArray 5 (1, 2))).alloc (.cells #[.slice (some ⟨w.heap.size, 0, none⟩) 1 1, .slice (some ⟨w.heap.size + 1, 0, none⟩) 1 1, .slice (some ⟨w.heap.size + 1 + 1, 0, none⟩) 1 1] 22)) _
  rw [← hW0]
  have HB0 := Lib.hid hB0
  have HL0 := Lib.hid hL0
  have HSc := Lib.hid hSc
  have HBB0 := Lib.hid hBB0
  clear hW0 hB0 hL0 hSc hBB0
  have hfit : Fit abc := ⟨by decide, by decide⟩
  refine (proof_any _ abc 2 _ (HG.out.below' HB0.out) HBB0.out hfit (by decide)).mono ?_
  rintro e W1 ⟨v', rfl, hown, hb1⟩
  rw [proof_abc] at hown
  obtain ⟨g, cap, rfl, hg1, hg2⟩ := own_succ hown
  obtain ⟨cur, hAp, htk, hcap1, hcap2, _⟩ := own_arr hown
  have HP := Lib.hid (own_sl hown)
  have HB1 := Lib.hid (HB0.out.trans (hb1.mono HB0.out.size))
  have HL1 := Lib.hid (HL0.out.below' hb1)
  have HS1 := Lib.hid (HSc.out.below hb1)
  have HBB1 := Lib.hid (HBB0.out.below hb1)
  clear hb1 hown hg1 hg2 hAp htk hcap1 HB0 HL0 HSc HBB0
  go_wp2_with (go_at_call 20; refine Hid.out ?_)
  refine stop ?_
  refine (proof_err _ abc 3 _ HBB1.out (by decide) (by decide)).mono ?_
  rintro e W1' ⟨rfl, rfl⟩
  go_wp2_with (go_at_call 12; refine Hid.out ?_)
  refine stop ?_
  refine (sum_any (.slice none 0 0) [] _ (HG.out.below' HB1.out) ⟨none, 0, rfl, Nat.le_refl _, by omega, fun _ => rfl, fun b o s e => by cases e⟩ (by simp)).mono ?_
  rintro e W2 ⟨rfl, hb2⟩
  have HB2 := Lib.hid (HB1.out.trans (hb2.mono HB1.out.size))
  have HL2 := Lib.hid (HL1.out.below' hb2)
  have HS2 := Lib.hid (HS1.out.below hb2)
  have HBB2 := Lib.hid (HBB1.out.below hb2)
  have HP2 := Lib.hid (HP.out.below hb2)
  clear hb2 HB1 HL1 HS1 HBB1 HP
  go_wp2_with (go_at_call 28; refine Hid.out ?_)
  refine stop ?_
  refine (hex_any _ _ (Sha.sum_len _)).mono ?_
  rintro e W3 ⟨rfl, hb3⟩
  rw [hex_nil]
  have HB3 := Lib.hid (HB2.out.trans (hb3.mono HB2.out.size))
  have HL3 := Lib.hid (HL2.out.below' hb3)
  have HS3 := Lib.hid (HS2.out.below hb3)
  have HBB3 := Lib.hid (HBB2.out.below hb3)
  have HP3 := Lib.hid (HP2.out.below hb3)
  clear hb3 HB2 HL2 HS2 HBB2 HP2
  have q4 := conv_const W3 #[.int .u8 97, .int .u8 98, .int .u8 99] 3 3
  simp only [List.size_toArray, List.length_cons, List.length_nil, Nat.zero_add] at q4
  go_wp2_with (go_at_call 12; refine Hid.out ?_)
  refine stop ?_
  refine (sum_any _ [97, 98, 99] _ (HG.out.below' (HB3.out.alloc HB3.out.size _)) (sl_new W3 rfl (u8s [97, 98, 99]) _ _ (by decide)) (by simp)).mono ?_
  rintro e W4 ⟨rfl, hb4⟩
  have hb4' : Below W3.heap.size W3 W4 := ((Below.refl _ _).alloc (Nat.le_refl _) _).trans (hb4.mono (by simp))
  have HB4 := Lib.hid (HB3.out.trans (hb4'.mono HB3.out.size))
  have HL4 := Lib.hid (HL3.out.below' hb4')
  have HS4 := Lib.hid (HS3.out.below hb4')
  have HBB4 := Lib.hid (HBB3.out.below hb4')
  have HP4 := Lib.hid (HP3.out.below hb4')
  clear hb4 hb4' HB3 HL3 HS3 HBB3 HP3 q4
  go_wp2_with (go_at_call 28; refine Hid.out ?_)
  refine stop ?_
  refine (hex_any _ _ (Sha.sum_len _)).mono ?_
  rintro e W5 ⟨rfl, hb5⟩
  rw [hex_abc]
  have HB5 := Lib.hid (HB4.out.trans (hb5.mono HB4.out.size))
  have HL5 := Lib.hid (HL4.out.below' hb5)
  have HS5 := Lib.hid (HS4.out.below hb5)
  have HBB5 := Lib.hid (HBB4.out.below hb5)
  have HP5 := Lib.hid (HP4.out.below hb5)
  clear hb5 HB4 HL4 HS4 HBB4 HP4
  go_wp2
  have h32 : Len32 abcProof := by intro x hx; simp only [abcProof, List.mem_singleton] at hx; subst hx; exact Sha.pair_len _ _
  have KR := Lib.hid (fun d : BelowT W5.heap.size W5 => calls_bt (Nat.le_refl _) d (root_any _ abc _ d.1 rfl ((HG.out.below' HB5.out).below' d.2) (HBB5.out.below d.2) hfit))
  have KH := Lib.hid (fun (l : List UInt8) (hl : l.length = 32) (d : BelowT W5.heap.size W5) => calls_bt (Nat.le_refl _) d (hex_any l d.1 hl))
  have KC := Lib.hid (fun (i : Int) (d : BelowT W5.heap.size W5) => calls_bt (Nat.le_refl _) d (check_any (Sha.root abc) [99] 3 i abcProof _ _ d.1 (Sha.root_len _) (by decide) ((HG.out.below' HB5.out).below' d.2) (HS5.out.below d.2) (HP5.out.below d.2) h32 (by decide) (by decide)))
  have hl2 : ∀ d : BelowT W5.heap.size W5, d.1.cell? ⟨w.heap.size + 1 + 1 + 1, 2, none⟩ = some (.slice (some ⟨w.heap.size + 1 + 1, 0, none⟩) 1 1) := fun d => (HL5.out.below' d.2).cell rfl
  refine wp_region_qb (by kernel_rfl) (by kernel_rfl) ?_
  go_big_quiet_step (fail)
  go_big_quiet_step (fail)
  go_big_quiet_step (fail)
  go_big_quiet_step (exact KR.out _)
  go_big_quiet_step (exact KH.out _ (Sha.root_len _) _)
  rw [hex_root]
  repeat (go_big_quiet_step (fail))
  refine wpQuiet_load_cells rfl _ _ rfl g 0 rfl (u8s (Sha.pair (Sha.leaf [97]) (Sha.leaf [98]))) (by rw [u8s_length, Sha.pair_len]; exact agg32) (fun w' hw' j v hv => ?_) ?_
  · obtain ⟨d, rfl⟩ := hw'
    obtain ⟨ao, c, e, _, _, _, h5⟩ := HP5.out
    simp only [Value.slice.injEq] at e
    obtain ⟨rfl, _, _⟩ := e
    have hc := (h5 _ _ _ rfl).2 j v (by rw [abcProof, sums_one]; exact hv)
    exact (d.2.cell (block_lt_of_cell hc)).trans hc
  simp only [Act.put, List.setIfInBounds_toArray, List.set_cons_zero, List.set_cons_succ]
  go_big_quiet_step (exact KH.out _ (Sha.pair_len _ _) _)
  rw [hex_proof]
  repeat (go_big_quiet_step (exact KR.out _))
  go_big_quiet_step (exact KC.out 2 _)
  rw [check_abc]
  repeat (go_big_quiet_step (exact KR.out _))
  go_big_quiet_step (exact KC.out 1 _)
  rw [check_abc1]
  repeat (go_big_quiet_step (fail))
  refine wpQuiet_nil ?_
  intro W6 hb6
  have HB6 := Lib.hid (HB5.out.trans (hb6.mono HB5.out.size))
  clear hb6 hl2 h32 KR KH KC
  go_wp2
  exact bodyPost_ret (results_tmp rfl _ _ _) rfl ⟨rfl, HB6.out⟩
end Go.Proofs.YtmindblfbijaaaaDoor
namespace Go.Proofs.YtmindblfbijaaaaDoor
open Go.RowKit
def byteD (b : UInt8) : D := .v (.int .u8 b.toNat)
def rowB (b : UInt8) : List D := [byteD b]
def bytesL (l : List UInt8) : D := .list 1 (l.map rowB) false
def rowS (s : List UInt8) : List D := s.map byteD
def sumD (s : List UInt8) : D := .agg 32 (rowS s)
def sumsL (ls : List (List UInt8)) : D := .list 32 (ls.map rowS) false
def rowE (l : List UInt8) : List D := [bytesL l]
def elemsL (ls : List (List UInt8)) : D := .list 1 (ls.map rowE) false
def u32D (x : UInt32) : D := .v (.int .u32 x.toNat)
def HG (g : Nat) : Option D := if g = 0 then some (.ptr 8 (Sha.begin8.map u32D)) else if g = 1 then some (.ptr 64 (Sha.keys64.map u32D)) else none
section
variable {C : Facts} {w : World}
theorem rep_slice {sz : Nat} {xs : List (List D)} {f : Bool} {v : Value} (h : Rep C (.list sz xs f) v) (hk : Known C w) : ∃ vs, Rp C (.vals xs.flatten vs) ∧ Sl w v xs.length vs := by
  obtain ⟨ao, cap, rfl, hc, h3⟩ := Rep.elem h
  by_cases hx : xs = []
  · subst hx
    exact ⟨[], .vnil, ao, cap, rfl, hc.le, hc.max, hc.nil, fun b o s e => ⟨fun h => hc.spot ⟨b, o, s⟩ e h, fun j u hj => by simp at hj⟩⟩
  · obtain ⟨b, off, rfl, hr⟩ := h3 hx
    obtain ⟨g1, g2⟩ := rows_flat hr
    obtain ⟨vs, hv, hcell⟩ := mem_vals g2
    refine ⟨vs, hv, _, cap, rfl, hc.le, hc.max, hc.nil, fun b' o s e => ?_⟩
    cases e
    exact ⟨fun _ => rfl, fun j u hj => hk _ _ _ (hcell j u hj)⟩
theorem vals_v : ∀ {xs vs : List Value}, Rp C (.vals (xs.map D.v) vs) → vs = xs := by
  intro xs
  induction xs with
  | nil => intro vs h; cases h; rfl
  | cons x xs ih =>
    intro vs h
    cases h with
    | vcons _ v _ vs h1 h2 h3 => rw [Rep.v_eq h2, ih h3]
theorem of_vals_v : ∀ {xs : List Value}, (∀ x ∈ xs, x.oneCell' = true) → Rp C (.vals (xs.map D.v) xs) := by
  intro xs
  induction xs with
  | nil => intro _; exact .vnil
  | cons x xs ih => intro h; exact .vcons _ _ _ _ (h x (by simp)) (.v x) (ih fun y hy => h y (by simp [hy]))
theorem flat_one {α β : Type} (f : α → β) (l : List α) : (l.map fun x => [f x]).flatten = l.map f := by
  induction l with
  | nil => rfl
  | cons x l ih => simp [ih]
theorem rowS_v (s : List UInt8) : rowS s = (u8s s).map D.v := by simp [rowS, u8s, byteD]
theorem bytes_sl {l : List UInt8} {v : Value} (h : Rep C (bytesL l) v) (hk : Known C w) : Sl w v l.length (u8s l) := by
  obtain ⟨vs, h1, h2⟩ := rep_slice h hk
  have e : (l.map rowB).flatten = (u8s l).map D.v := by
    show (l.map fun b => [byteD b]).flatten = _
    rw [flat_one]; simp [u8s, byteD]
  rw [e] at h1
  rw [vals_v h1] at h2
  simpa using h2
theorem elems_bb {ls : List (List UInt8)} {v : Value} (h : Rep C (elemsL ls) v) (hk : Known C w) : BB w v ls := by
  obtain ⟨vs, h1, h2⟩ := rep_slice h hk
  have e : (ls.map rowE).flatten = ls.map bytesL := by
    show (ls.map fun b => [bytesL b]).flatten = _
    exact flat_one _ _
  rw [e] at h1
  have hl := vals_length h1
  refine ⟨vs, by simpa using hl, by simpa using h2, fun i l hi => ?_⟩
  obtain ⟨u, a1, _, a3⟩ := vals_get h1 i (bytesL l) (by simp [hi])
  exact ⟨u, a1, bytes_sl a3 hk⟩
theorem sums_sl {p : List (List UInt8)} {v : Value} (h : Rep C (sumsL p) v) (hk : Known C w) : Sl w v p.length (sums p) := by
  obtain ⟨vs, h1, h2⟩ := rep_slice h hk
  have e : (p.map rowS).flatten = (sums p).map D.v := by
    clear h h1 h2
    induction p with
    | nil => rfl
    | cons s p ih => simp [sums_cons, rowS_v, ih]
  rw [e] at h1
  rw [vals_v h1] at h2
  simpa using h2
theorem sum_val {s : List UInt8} {v : Value} (h : Rep C (sumD s) v) : v = .agg (u8s s).toArray := by
  cases h with
  | agg _ _ vs hl hv => rw [rowS_v] at hv; rw [vals_v hv]
theorem sum_rep {s : List UInt8} (h : s.length = 32) : Rep C (sumD s) (.agg (u8s s).toArray) :=
  .agg 32 _ _ (by simp [rowS, h]) (by rw [rowS_v]; exact of_vals_v (u8s_one s))
theorem glob_of (hG : GlobD HG C) (hk : Known C w) : Glob w := by
  have h0 := hG 0 _ rfl
  have h1 := hG 1 _ rfl
  cases h0 with
  | ptr _ _ _ _ l0 m0 =>
    cases h1 with
    | ptr _ _ _ _ l1 m1 =>
      refine ⟨fun i hi => ?_, fun i hi => ?_⟩
      · have hl : i < Sha.begin8.length := by simpa using (show i < (Sha.begin8.map u32D).length by rw [l0]; exact hi)
        obtain ⟨u, a1, _, a3⟩ := mem_get m0 i (u32D Sha.begin8[i]) (by simp [hl])
        have := Rep.v_eq a3; subst this
        have := hk _ _ _ a1
        rw [Nat.zero_add] at this
        rw [this]; simp [hl]
      · have hl : i < Sha.keys64.length := by simpa using (show i < (Sha.keys64.map u32D).length by rw [l1]; exact hi)
        obtain ⟨u, a1, _, a3⟩ := mem_get m1 i (u32D Sha.keys64[i]) (by simp [hl])
        have := Rep.v_eq a3; subst this
        have := hk _ _ _ a1
        rw [Nat.zero_add] at this
        rw [this]; simp [hl]
end
theorem outs1 {C : Facts} {d : D} {vs : List Value} (h : Rp C (.outs [d] vs)) : ∃ v, vs = [v] ∧ Rep C d v := by
  cases h with | ocons _ v _ _ h1 h2 => cases h2; exact ⟨v, rfl, h1⟩
theorem outs2 {C : Facts} {d e : D} {vs : List Value} (h : Rp C (.outs [d, e] vs)) : ∃ v u, vs = [v, u] ∧ Rep C d v ∧ Rep C e u := by
  cases h with | ocons _ v _ _ h1 h2 => obtain ⟨u, rfl, h3⟩ := outs1 h2; exact ⟨v, u, rfl, h1, h3⟩
/-- A row that a call owns stands for data, from now on. -/
theorem own_rep {C : Facts} {w w' : World} {base e size : Nat} {v : Value} {n : Nat} {cs : List Value} {xs : List (List D)} (hk : Known C w) (hb : Below w.heap.size w w') (hbase : w.heap.size ≤ base) (ho : w'.ownsRow base e size v n cs) (hx : ∀ x ∈ xs, x.length = size) (hn : xs.length = n) (hcs : Rp C (.vals xs.flatten cs)) :
    ∃ C', More w C w' C' ∧ Rep C' (.list size xs false) v := by
  obtain ⟨h1, h2⟩ := ho
  rcases h2 with ⟨rfl, rfl⟩ | ⟨g, cap, cur, rfl, hg, hh, hcap, hmax, hsz, htake⟩
  · have : xs = [] := List.eq_nil_of_length_eq_zero hn
    subst this
    exact ⟨C, .of_below hk hb, .nil _ _ _ _ ⟨Nat.le_refl _, fun _ => rfl, by omega, fun _ => rfl, fun _ h => by cases h⟩⟩
  · have hm : More w C w' (addF C g cur) := by
      refine ⟨hb, fun _ _ _ h => .inl h, fun b o u h => h.imp id (fun h => by omega), fun b o u h => ?_⟩
      rcases h with h | ⟨rfl, h⟩
      · exact hk.below hb b o u h
      · rw [cell_of_row _ _ _ _ _ _ hh]; exact h
    refine ⟨_, hm, ?_⟩
    by_cases h0 : xs = []
    · subst h0
      subst hn
      exact .nil _ _ _ _ ⟨Nat.zero_le _, by simp, hmax, fun h => (by cases h), fun x h _ => by cases h; rfl⟩
    · have hrows := flat_vals (C := C) (rows := xs) (vs := cs) (size := size) hx hcs cur (fun j u hj => by
        have hjl : j < n * size := by rw [← h1]; exact (List.getElem?_eq_some_iff.1 hj).1
        rw [← htake, List.getElem?_take_of_lt hjl] at hj
        simpa using hj) g
      have := Rp.list (C := addF C g cur) size xs false g 0 cap h0 ⟨by omega, by simp, hmax, fun h => (by cases h), fun x h _ => by cases h; rfl⟩ hrows
      rw [hn] at this
      exact this
theorem sumsL_flat (p : List (List UInt8)) : (p.map rowS).flatten = (sums p).map D.v := by
  induction p with
  | nil => rfl
  | cons s p ih => simp [sums_cons, rowS_v, ih]
theorem proof_len32 (ls : List (List UInt8)) (i : Nat) : Len32 (Sha.proof ls i) := by
  intro x hx
  unfold Sha.proof at hx
  exact path_len32 _ ls i rfl x (by simpa using hx)
theorem sums_one' (p : List (List UInt8)) : ∀ x ∈ sums p, x.oneCell' = true := by
  intro x hx
  simp only [sums, List.mem_flatten, List.mem_map] at hx
  obtain ⟨l, ⟨s, _, rfl⟩, hx⟩ := hx
  exact u8s_one s x hx
theorem sum_D (l : List UInt8) (hn : l.length ≤ 1000000) : CallsD Tryd.prog HG 12 [bytesL l] (sumD (Sha.sum l)) := by
  intro C w vs hG hk ha
  obtain ⟨v, rfl, hv⟩ := outs1 ha
  refine (sum_any v l w (glob_of hG hk) (bytes_sl hv hk) hn).mono ?_
  rintro e w' ⟨rfl, hb⟩
  exact ⟨_, C, rfl, .of_below hk hb, sum_rep (Sha.sum_len l)⟩
theorem leaf_D (l : List UInt8) (hn : l.length ≤ 900000) : CallsD Tryd.prog HG 14 [bytesL l] (sumD (Sha.leaf l)) := by
  intro C w vs hG hk ha
  obtain ⟨v, rfl, hv⟩ := outs1 ha
  refine (leaf_any v l w (glob_of hG hk) (bytes_sl hv hk) hn).mono ?_
  rintro e w' ⟨rfl, hb⟩
  exact ⟨_, C, rfl, .of_below hk hb, sum_rep (Sha.leaf_len l)⟩
theorem pair_D (a b : List UInt8) (h1 : a.length = 32) (h2 : b.length = 32) : CallsD Tryd.prog HG 16 [sumD a, sumD b] (sumD (Sha.pair a b)) := by
  intro C w vs hG hk ha
  obtain ⟨v, u, rfl, hv, hu⟩ := outs2 ha
  rw [sum_val hv, sum_val hu]
  refine (pair_any a b w (glob_of hG hk) h1 h2).mono ?_
  rintro e w' ⟨rfl, hb⟩
  exact ⟨_, C, rfl, .of_below hk hb, sum_rep (Sha.sum_len _)⟩
theorem root_D (ls : List (List UInt8)) (hF : Fit ls) : CallsD Tryd.prog HG 18 [elemsL ls] (sumD (Sha.root ls)) := by
  intro C w vs hG hk ha
  obtain ⟨v, rfl, hv⟩ := outs1 ha
  refine (root_any _ ls v w rfl (glob_of hG hk) (elems_bb hv hk) hF).mono ?_
  rintro e w' ⟨rfl, hb⟩
  exact ⟨_, C, rfl, .of_below hk hb, sum_rep (Sha.root_len ls)⟩
theorem proofErr_D (ls : List (List UInt8)) (i : Int) (hi : i < 0 ∨ (ls.length : Int) ≤ i) (hF : ls.length ≤ 1000000) : CallsD Tryd.prog HG 20 [elemsL ls, .v (.int .i64 i)] (.tup [.list 32 [] true, .v (.int .i64 1)]) := by
  intro C w vs hG hk ha
  obtain ⟨v, u, rfl, hv, hu⟩ := outs2 ha
  rw [Rep.v_eq hu]
  refine (proof_err v ls i w (elems_bb hv hk) hi hF).mono ?_
  rintro e w' ⟨rfl, rfl⟩
  exact ⟨_, C, rfl, .refl hk, .tup _ _ (.ocons _ _ _ _ (.nil _ _ _ _ ⟨Nat.le_refl _, fun _ => rfl, by omega, fun _ => rfl, fun _ h => by cases h⟩) (.ocons _ _ _ _ (.v _) .onil))⟩
theorem proof_D (ls : List (List UInt8)) (i : Nat) (hF : Fit ls) (hi : i < ls.length) : CallsD Tryd.prog HG 20 [elemsL ls, .v (.int .i64 i)] (.tup [sumsL (Sha.proof ls i), .v (.int .i64 0)]) := by
  intro C w vs hG hk ha
  obtain ⟨v, u, rfl, hv, hu⟩ := outs2 ha
  rw [Rep.v_eq hu]
  refine (proof_any v ls i w (glob_of hG hk) (elems_bb hv hk) hF hi).mono ?_
  rintro e w' ⟨v', rfl, ho, hb⟩
  obtain ⟨C', hm, hr⟩ := own_rep (xs := (Sha.proof ls i).map rowS) hk hb (Nat.le_refl _) ho (by
    intro x hx
    obtain ⟨s, hs, rfl⟩ := List.mem_map.1 hx
    simpa [rowS] using proof_len32 ls i s hs) (by simp) (by rw [sumsL_flat]; exact of_vals_v (sums_one' _))
  exact ⟨_, C', rfl, hm, .tup _ _ (.ocons _ _ _ _ hr (.ocons _ _ _ _ (.v _) .onil))⟩
theorem check_D (root b : List UInt8) (n i : Int) (p : List (List UInt8)) (hr : root.length = 32) (hb : b.length ≤ 900000) (h32 : Len32 p) (hpn : p.length ≤ 1000000) (hn : n ≤ 4294967296) :
    CallsD Tryd.prog HG 23 [sumD root, .v (.int .i64 n), .v (.int .i64 i), bytesL b, sumsL p] (.v (.bool (Sha.check root n i b p))) := by
  intro C w vs hG hk ha
  cases ha with | ocons _ v0 _ vs h0 ha =>
  cases ha with | ocons _ v1 _ vs h1 ha =>
  cases ha with | ocons _ v2 _ vs h2 ha =>
  obtain ⟨v3, v4, rfl, h3, h4⟩ := outs2 ha
  rw [sum_val h0, Rep.v_eq h1, Rep.v_eq h2]
  refine (check_any root b n i p v3 v4 w hr hb (glob_of hG hk) (bytes_sl h3 hk) (sums_sl h4 hk) h32 hpn hn).mono ?_
  rintro e w' ⟨rfl, hb⟩
  exact ⟨_, C, rfl, .of_below hk hb, .v _⟩
theorem sanity_D : CallsD Tryd.prog HG 10 [] (.v (.bool true)) := by
  intro C w vs hG hk ha
  cases ha
  refine (sanity_any w (glob_of hG hk)).mono ?_
  rintro e w' ⟨rfl, hb⟩
  exact ⟨_, C, rfl, .of_below hk hb, .v _⟩
end Go.Proofs.YtmindblfbijaaaaDoor
