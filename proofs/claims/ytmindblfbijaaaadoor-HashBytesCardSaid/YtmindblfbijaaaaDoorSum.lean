/-
  Walks: the hash of bytes.
-/
import Derived.RangeFuncNested
import Derived.RangeFuncBound
import Derived.RangeFuncCalls
import Derived.RangeFuncLeaves
import Derived.RangeFuncFrom
import Derived.Shelf.Abstract
import Derived.Shelf.RegionOpen
import Derived.OwnWalkIn
import Derived.TacticsInMore
import Derived.LoopNIn
import Derived.LoopIn
import Derived.Test.YtmindblfbijaaaaDoorRows
import Derived.WalkKit
import Derived.WalkSpells
import Derived.WalkLawsBesides
import Derived.BigQuiet
import Derived.Deep.QuietTactic
import Derived.Deep.RegionHeld3
import Derived.Deep.DeepCutAuto
import Derived.Deep.LoopGhost
import Derived.StillTailTactics
import Derived.Lib.Hide
import Derived.Handy
import Derived.Test.YtmindblfbijaaaaDoorChunk
import Derived.Test.YtmindblfbijaaaaDoorOwn
import Derived.Test.YtmindblfbijaaaaDoorRound
namespace Go.Proofs.YtmindblfbijaaaaDoor
open Go.RowKit Go.Shelf
attribute [local go_sem] Oper.semAt_some
/-- The two tables. -/
def Glob (w : World) : Prop := (∀ i, i < 8 → w.cell? ⟨0, i, none⟩ = some (.int .u32 (Sha.begin8.getD i 0).toNat)) ∧ (∀ i, i < 64 → w.cell? ⟨1, i, none⟩ = some (.int .u32 (Sha.keys64.getD i 0).toNat))
theorem Glob.below {B : Nat} {w w' : World} (h : Glob w) (hb : Below B w w') (hB : 2 ≤ B) : Glob w' :=
  ⟨fun i hi => (hb.cell (p := ⟨0, i, none⟩) (by simp; omega)).trans (h.1 i hi), fun i hi => (hb.cell (p := ⟨1, i, none⟩) (by simp; omega)).trans (h.2 i hi)⟩
theorem Glob.size {w : World} (h : Glob w) : 2 ≤ w.heap.size := block_lt_of_cell (h.2 0 (by omega))
theorem elU8 : ElemT Tryd.prog 22 5 (.int .u8 0) 1 1 := ⟨Tryd.underlying22, by kernel_rfl, rfl, by decide⟩
theorem agg32 : AggT Tryd.prog 28 32 := ⟨fun _ => by kernel_rfl, by kernel_rfl⟩
theorem arr_one (w : World) (v : Value) (T : TypeId) : Arr (w.alloc (.cells #[v] T)) w.heap.size [v] := Arr.new w [v] T
set_option maxRecDepth 100000 in
set_option maxHeartbeats 1000000 in
theorem sum_any (v : Value) (l : List UInt8) (w : World) (hg : Glob w) (hS : Sl w v l.length (u8s l)) (hn : l.length ≤ 1000000) :
    Calls Tryd.prog 12 #[v] w fun e w' => e = .returned (.agg (u8s (Sha.sum l)).toArray) ∧ Below w.heap.size w w' := by
  obtain ⟨ao, cap, rfl, hle, hcap, hnil, hcell⟩ := hS
  obtain ⟨n, hnn⟩ : ∃ n, n = l.length := ⟨_, rfl⟩
  rw [← hnn] at hle hn
  have Hn := Lib.hid hnn
  have HG := Lib.hid hg; clear hg
  have HC := Lib.hid hcell; clear hcell
  have Hnil := Lib.hid hnil; clear hnil
  rw [← hnn]
  clear hnn
  refine callsIn_wide (n := 2).1 ?_
  refine callsIn_of_wp_marks Tryd.func12 rfl trivial ?_ rfl
  simp only [Tryd.ntmps12, List.size_toArray, List.length_cons, List.length_nil, Nat.reduceAdd, Nat.reduceSub, Array.replicate_succ, Array.replicate_zero, List.push_toArray, List.append_toArray, List.nil_append, List.cons_append]
  refine wpIn_wide.2 ?_
  go_wp2_with (first
    | (go_at_call 29; refine (clip_any ao n cap _ hle hcap Hnil.out).mono ?_; rintro e w' ⟨rfl, rfl⟩)
    | (at_builtin; refine Hid.out ?_))
  refine stop ?_
  refine wpList_push_grow elU8 rfl _ _ rfl ao n (u8s l) rfl (fun h => by have := Hnil.out h; omega) (by rw [u8s_length, ← Hn.out, Nat.mul_one]) (fun b o s e => ⟨(HC.out b o s e).1, fun j u hj => ?_⟩) _ rfl [.int .u8 128] (Arr.newAt (by simp) _ _) rfl (by simp [Value.oneCell']) (by omega) (by omega) ?_
  · have := (HC.out b o s e).2 j u hj
    exact cellK (((Below.refl _ _).alloc (Nat.le_refl _) _).alloc (by simp) _) this
  intro g1 cap1 w1 hown hgr hg1 hlt1
  have hB1 : Below w.heap.size w w1 := (((Below.refl _ _).alloc (Nat.le_refl _) _).alloc (by simp) _).grown hgr (by simp; omega) (by intro k hk; cases hk)
  have hA0 : Arr w1 w.heap.size (u8s (List.replicate 32 0)) := ((Arr.new w (u8s (List.replicate 32 0)) _).alloc _).grown hgr (by simp)
  have hown' : w1.ownsRow (w.heap.size + 1) 5 1 (.slice (some ⟨g1, 0, none⟩) (n + 1) cap1) (n + 1) (u8s (l ++ [128])) := by
    have : u8s (l ++ [128]) = u8s l ++ [.int .u8 128] := by simp [u8s]
    rw [this]
    exact own_base hown (by simp)
  have hg1' : w.heap.size + 1 ≤ g1 := by simp at hg1; omega
  clear hown hgr hcap hle hg1
  go_wp2
  go_loopw [3] (fun v wr => ∃ j : Nat, j ≤ Sha.zeros n ∧ ∃ g cap, v = .slice (some ⟨g, 0, none⟩) (n + 1 + j) cap ∧ w.heap.size + 1 ≤ g ∧ g < wr.heap.size ∧ wr.ownsRow (w.heap.size + 1) 5 1 (.slice (some ⟨g, 0, none⟩) (n + 1 + j) cap) (n + 1 + j) (u8s (l ++ [128] ++ List.replicate j 0)) ∧ Arr wr w.heap.size (u8s (List.replicate 32 0)) ∧ Below w.heap.size w wr) (fun v _ => n + 1 + Sha.zeros n - slLen v)
  case atStart => exact ⟨0, by omega, g1, cap1, rfl, hg1', hlt1, by simpa using hown', hA0, hB1⟩
  case round =>
    clear hB1 hA0 hown' hlt1 hg1'
    obtain ⟨j, hj, g, cap, rfl, hgB, hgl, hown, hA, hB⟩ := hrel
    have hz : Sha.zeros n ≤ 63 := by unfold Sha.zeros; omega
    have Hown := Lib.hid hown; clear hown
    have HA := Lib.hid hA; clear hA
    have hsz := hB.size
    have HB := Lib.hid hB; clear hB
    by_cases hlt : j < Sha.zeros n
    · have ht := Sha.zeros_test n j hlt
      have hb : (((n : Int) + 1 + j + 8) % 64 != 0) = true := by rw [bne_iff_ne]; omega
      have HL := Lib.hid hlt
      have hj63 : j ≤ 62 := by omega
      clear hlt hj ht hz
      go_wp2_with (at_builtin; refine Hid.out ?_)
      refine stop ?_
      refine wpList_push_at elU8 rfl _ _ rfl (w.heap.size + 1) (n + 1 + j) _ _ _ rfl (Hown.out.alloc _) _ rfl [.int .u8 0] (Arr.newAt rfl _ _) rfl (by simp [Value.oneCell']) (by omega) (by omega) (by simp; omega) ?_
      intro g2 cap2 w2 hown2 hgr2 hg2 hlt2
      have hB2 : Hid (Below w.heap.size w w2) := by
        refine stop ((HB.out.alloc HB.out.size _).grown hgr2 ?_ ?_)
        · rw [World.size_alloc]; omega
        · intro k hk; cases hk; omega
      have hA2 : Hid (Arr w2 w.heap.size (u8s (List.replicate 32 0))) := stop ((HA.out.alloc _).grown hgr2 (by intro h; cases h; omega))
      have Hown2 := Lib.hid hown2
      clear hown2 hgr2
      go_wp2
      go_roundw
      case rel =>
        refine ⟨j + 1, HL.out, g2, cap2, rfl, hg2, hlt2, ?_, hA2.out, hB2.out⟩
        have e : u8s (l ++ [128] ++ List.replicate (j + 1) 0) = u8s (l ++ [128] ++ List.replicate j 0) ++ [.int .u8 0] := by
          rw [List.replicate_succ', ← List.append_assoc]; simp [u8s]
        rw [e]; exact Hown2.out
      case measure => simp [slLen]; have := HL.out; omega
    · have hje : j = Sha.zeros n := by omega
      have hb : (((n : Int) + 1 + j + 8) % 64 != 0) = false := by
        have := Sha.zeros_end n
        rw [bne_eq_false_iff_eq]; omega
      have HJ := Lib.hid hje
      have hj63 : j ≤ 63 := by omega
      clear hlt hj hz hje
      go_wp2_with (at_builtin; refine Hid.out ?_)
      go_loopw [3, 4] (fun v s wr => ∃ i : Nat, i ≤ 8 ∧ s = .int .i64 (56 - 8 * (i : Int)) ∧ ∃ g cap, v = .slice (some ⟨g, 0, none⟩) (n + 1 + j + i) cap ∧ w.heap.size + 1 ≤ g ∧ g < wr.heap.size ∧ wr.ownsRow (w.heap.size + 1) 5 1 (.slice (some ⟨g, 0, none⟩) (n + 1 + j + i) cap) (n + 1 + j + i) (u8s (l ++ [128] ++ List.replicate j 0 ++ (Sha.lenBytes n).take i)) ∧ Arr wr w.heap.size (u8s (List.replicate 32 0)) ∧ Below w.heap.size w wr) (fun v _ _ => n + 1 + j + 8 - slLen v)
      case atStart => exact ⟨0, by omega, rfl, g, cap, rfl, hgB, hgl, by simpa using Hown.out, HA.out, HB.out⟩
      case round =>
        clear HA HB Hown hgB hgl hsz
        obtain ⟨i, hi, rfl, g, cap, rfl, hgB, hgl, hown, hA, hB⟩ := hrel
        have Hown := Lib.hid hown; clear hown
        have HA := Lib.hid hA; clear hA
        have hsz := hB.size
        have HB := Lib.hid hB; clear hB
        by_cases hlt : i < 8
        · have h56 : (0 : Int) ≤ 56 - 8 * i := by omega
          go_wp2_with (at_builtin; refine Hid.out ?_)
          refine stop ?_
          refine wpList_push_at elU8 rfl _ _ rfl (w.heap.size + 1) (n + 1 + j + i) _ _ _ rfl (Hown.out.alloc _) _ rfl [_] (Arr.newAt rfl [_] _) rfl ?_ (by omega) (by omega) (by simp; omega) ?_
          · intro u hu; simp only [List.mem_singleton] at hu; subst hu; rfl
          intro g2 cap2 w2 hown2 hgr2 hg2 hlt2
          have hB2 : Hid (Below w.heap.size w w2) := by
            refine stop ((HB.out.alloc HB.out.size _).grown hgr2 ?_ ?_)
            · rw [World.size_alloc]; omega
            · intro k hk; cases hk; omega
          have hA2 : Hid (Arr w2 w.heap.size (u8s (List.replicate 32 0))) := stop ((HA.out.alloc _).grown hgr2 (by intro h; cases h; omega))
          have Hown2 := Lib.hid hown2
          clear hown2 hgr2
          go_wp2
          go_roundw
          case rel =>
            refine ⟨i + 1, by omega, by go_num, g2, cap2, rfl, hg2, hlt2, ?_, hA2.out, hB2.out⟩
            have e : u8s (l ++ [128] ++ List.replicate j 0 ++ (Sha.lenBytes n).take (i + 1)) = u8s (l ++ [128] ++ List.replicate j 0 ++ (Sha.lenBytes n).take i) ++ [.int .u8 (8 * ↑n / 2 ^ (56 - 8 * i) % 256)] := by
              rw [Sha.lenBytes_take n i hlt, ← List.append_assoc]
              simp only [u8s, List.map_append, List.map_cons, List.map_nil]
              congr 3
            rw [e]; exact Hown2.out
          case measure => simp [slLen]; omega
        · obtain rfl : i = 8 := by omega
          have hg2 := HG.out.below HB.out HG.out.size
          have hgb := Lib.hid hg2.1
          clear hg2
          go_wp2_with (first
            | (refine wpList_load_cells rfl _ _ rfl 0 0 rfl (u32s Sha.begin8) agg8 (fun j v hv => ?_) ?_)
            | (refine wpList_store_cells rfl rfl _ _ _ rfl _ _ rfl (u32s Sha.begin8) rfl agg8.2 (u32s_one _) _ (Arr.newAt rfl (u32s (List.replicate 8 0)) _) (by decide) ?_; intro w3 hA3 hG3)
            | (go_at_call 30; refine (chunk_any _ _ _ _).mono ?_; rintro e w' ⟨rfl, hw'⟩))
          · have hj8 : j < 8 := by
              have := (List.getElem?_eq_some_iff.1 hv).1
              simpa [u32s, Sha.begin8] using this
            rw [u32s_get (l := Sha.begin8) (by simpa [Sha.begin8] using hj8), Option.some.injEq] at hv
            rw [← hv, Nat.zero_add]; exact hgb.out j hj8
          obtain ⟨cur, hcur, htake, hcle, hcmax, hclen⟩ := own_arr Hown.out
          have hpad : l ++ [128] ++ List.replicate j 0 ++ (Sha.lenBytes n).take 8 = Sha.padded l := by
            rw [HJ.out, Hn.out, List.take_of_length_le (by simp [Sha.lenBytes])]; rfl
          rw [hpad, Nat.mul_one] at htake
          obtain ⟨m, hm⟩ : ∃ m, m = (Sha.padded l).length / 64 := ⟨_, rfl⟩
          have hmod := Sha.padded_mod l
          have hplen := Sha.padded_length l
          rw [← hm] at hmod
          rw [← Hn.out, ← HJ.out] at hplen
          have h64 : n + 1 + j + 8 = 64 * m := by omega
          rw [h64] at hw' htake hcle ⊢
          have eA : lay (u32s (List.replicate 8 0)) 0 (u32s Sha.begin8) = u32s Sha.first.list := rfl
          rw [eA] at hA3
          obtain ⟨b5, hb5⟩ : ∃ b, b = wr.heap.size := ⟨_, rfl⟩
          rw [← hb5] at hA3 hG3 ⊢
          have hB3 : Below w.heap.size w w3 := by
            refine (HB.out.alloc HB.out.size _).grown hG3 ?_ ?_
            · rw [World.size_alloc]; omega
            · intro k hk; cases hk; omega
          have hZ3 : Arr w3 w.heap.size (u8s (List.replicate 32 0)) := (HA.out.alloc _).grown hG3 (by intro h; cases h; omega)
          have hC3 : Arr w3 g cur := (hcur.alloc _).grown hG3 (by intro h; cases h; omega)
          have hs3 : b5 < w3.heap.size := hA3.lt
          have hBw : Below w3.heap.size w3 w' := by rw [hw']; exact ((Below.refl _ _).alloc (Nat.le_refl _) _).alloc (by simp) _
          have c0 : w'.cell? ⟨w3.heap.size, 0, none⟩ = some (.slice (some ⟨g, 0, none⟩) (64 * m) cap) := by rw [hw']; simp
          have c1 : w'.cell? ⟨w3.heap.size + 1, 0, none⟩ = some (.int .i64 64) := by rw [hw']; simp
          have hsw : w3.heap.size + 1 < w'.heap.size := block_lt_of_cell c1
          have A5 := hA3.below' hBw
          have AZ := hZ3.below' hBw
          have AC := hC3.below' hBw
          have BW := hB3.trans (hBw.mono hB3.size)
          have hB3s := hB3.size
          rw [← hw']
          clear hw' hA3 hZ3 hC3 hB3 hBw hG3 HA HB Hown hgb hcur
          have hgb5 : g ≠ b5 := by omega
          have HT := Lib.hid htake; have H64 := Lib.hid h64; have HM := Lib.hid hm; have HMO := Lib.hid hmod
          have D0 := Lib.hid c0; have D1 := Lib.hid c1; have HB5 := Lib.hid hb5; have HBW := Lib.hid BW
          have hwb5 : w.heap.size ≤ b5 := by omega
          clear htake h64 hm hmod c0 c1 hb5 BW eA hpad hclen hplen
          refine (wpIn_wide (n := 2)).1 ?_
          refine wpIn_rangeFunc_ownF (F := Fence.wide) (n := 2) rfl (by decide) (gf := 42) (lb := #[.pointer (some ⟨w3.heap.size, 0, none⟩), .pointer (some ⟨w3.heap.size + 1, 0, none⟩)]) rfl trivial Tryd.call42
            (chunk_stops 1 (by decide) w3.heap.size g m cap hcle hcmax w' hsw D0.out D1.out) (fun h k => h.trans k) (fun W l o o' hl _ _ _ => KpC.putObj W o' (by omega)) (Below.refl _ _) (fun _ => rfl)
            (fun (pre : List (Fin m)) W => Arr W b5 (u32s (Sha.foldB (Sha.padded l) (pre.map (·.1))).list) ∧ Arr W w.heap.size (u8s (List.replicate 32 0)) ∧ Arr W g cur ∧ Below w.heap.size w W ∧ w'.heap.size ≤ W.heap.size) (fun _ _ _ => False) ?hI (fun _ _ _ _ _ h _ _ => h) ⟨A5, AZ, AC, HBW.out, Nat.le_refl _⟩ ?a1 ?assign ?body ?done ?stop
          case assign =>
            intro l x W K hK
            gi_wp2
            exact hK
          case hI =>
            intro s W W' row hs hg hr
            have hr' : ∀ r, row = some r → ∃ o : Obj, W.heap[r]? = some o ∧ o.isCells = false := fun r e => (hr r e).2
            refine ⟨hs.1.ownK hg hr', hs.2.1.ownK hg hr', hs.2.2.1.ownK hg hr', hs.2.2.2.1.grown hg hs.2.2.2.1.size (fun r e => Nat.le_trans HBW.out.size (hr r e).1), Nat.le_trans hs.2.2.2.2 hg.size⟩
          case body =>
            intro l' pre x W hI hlen
            obtain ⟨I5, IZ, IC, IB, IS⟩ := hI
            have hxm := x.2
            obtain ⟨s, hs⟩ : ∃ s, s = Sha.foldB (Sha.padded l) (pre.map (·.1)) := ⟨_, rfl⟩
            rw [← hs] at I5
            have hgW := HG.out.below IB HG.out.size
            have hcell : ∀ i, i < 64 → W.cell? ⟨g, 64 * x.1 + i, none⟩ = some (.int .u8 ((((Sha.padded l).drop (64 * x.1)).take 64).getD i 0).toNat) := by
              intro i hi
              refine IC.cell ?_
              have h1 : (cur.take (64 * m))[64 * x.1 + i]? = cur[64 * x.1 + i]? := List.getElem?_take_of_lt (by omega)
              rw [← h1, HT.out, u8s_get (by have := HMO.out; omega)]
              congr 4
              simp [List.getElem?_take_of_lt hi]
            have J5 := Lib.hid I5; clear I5
            have JZ := Lib.hid IZ; clear IZ
            have JC := Lib.hid IC; clear IC
            have JB := Lib.hid IB; clear IB
            have JG := Lib.hid hgW; clear hgW
            have JH := Lib.hid hcell; clear hcell
            have HS := Lib.hid hs; clear hs
            have hgW : g < W.heap.size := JC.out.lt
            gi_wp2_with (first
              | (refine wpListIn_load_cells (fun _ => trivial) rfl _ _ rfl b5 0 rfl (u32s s.list) agg8 (fun j v hv => by rw [Nat.zero_add]; exact J5.out.cell hv) ?_)
              | (refine ⟨trivial, rfl, ?_⟩; gi_at_call 31; refine (CallsIn.inRound l' (callsIn_wide.2 (after_any g (64 * x.1) 64 s (((Sha.padded l).drop (64 * x.1)).take 64) W hgW JH.out JG.out.2))).mono ?_; rintro e w4 ⟨rfl, hb4⟩)
              | (refine wpListIn_store_cells (fun _ => trivial) rfl rfl _ _ _ rfl b5 0 rfl (u32s (Sha.after s (((Sha.padded l).drop (64 * x.1)).take 64)).list) rfl agg8.2 (u32s_one _) _ (J5.out.below' hb4) (by simp [u32s_length, s8_len]) ?_; intro w5 hA5 hG5))
            rw [lay_whole _ _ (by simp [u32s_length, s8_len])] at hA5
            have hb4' : Below w.heap.size w w4 := JB.out.trans (hb4.mono JB.out.size)
            have hs4 := hb4.size
            refine ⟨(keeps_of_below hb4).trans (keeps_of_grown (J5.out.below' hb4) hG5), (KpC.of_below hb4 (by omega)).trans ⟨hG5.block _ (by omega) (by intro h; cases h; omega), hG5.block _ (by omega) (by intro h; cases h; omega)⟩, ?_, (JZ.out.below' hb4).grown hG5 ?_, (JC.out.below' hb4).grown hG5 ?_, hb4'.grown hG5 hb4'.size ?_, ?_⟩
            · rw [List.map_append, List.map_cons, List.map_nil, Sha.foldB_snoc, ← HS.out]; exact hA5
            · intro h; cases h; have := HB5.out; omega
            · intro h; cases h; exact hgb5 rfl
            · intro k hk; cases hk; exact hwb5
            · have := hG5.size; omega
          case done =>
            rintro D ys W hD hys ⟨I5, IZ, IC, IB, IS⟩ hK
            have e : ys.map (·.1) = List.range m := by
              rw [hys]
              apply List.ext_getElem (by simp)
              intro i h1 h2
              simp
            rw [e, Sha.foldB_range, HM.out] at I5
            obtain ⟨s, hs⟩ : ∃ s, s = Sha.over (Sha.padded l) ((Sha.padded l).length / 64) := ⟨_, rfl⟩
            rw [← hs] at I5
            have HS := Lib.hid hs; clear hs e hys
            have G5 := Lib.hid I5; clear I5
            have GZ := Lib.hid IZ; clear IZ
            have GB := Lib.hid IB; clear IB
            have GK := Lib.hid hK; clear hK
            clear IC A5 AZ AC
            have hls : s.list.length = 8 := rfl
            have h28 : w.heap.size < W.heap.size := GZ.out.lt
            have h59 : b5 < W.heap.size := G5.out.lt
            clear hls
            go_wp2
            go_loopw [42] (fun i wr => ∃ k : Nat, k ≤ 32 ∧ i = .int .i64 k ∧ Arr wr W.heap.size (u8s ((Sha.out s).take k ++ List.replicate (32 - k) 0)) ∧ Arr wr b5 (u32s s.list) ∧ Arr wr w.heap.size (u8s (List.replicate 32 0)) ∧ Below w.heap.size w wr ∧ wr.heap[D]? = some (.deferred (some []))) (fun i _ => 32 - (intOf i).toNat)
            case atStart =>
              refine ⟨0, by omega, rfl, ?_, G5.out.alloc _, GZ.out.alloc _, GB.out.alloc GB.out.size _, (Below.heap_alloc W _ D (lt_of_block GK.out)).trans GK.out⟩
              exact Arr.new W (u8s (List.replicate 32 0)) _
            case round =>
              have hDl : D < W.heap.size := lt_of_block GK.out
              clear G5 GZ GB GK
              obtain ⟨k, hk, rfl, h6, h5, hZ, hB, hK⟩ := hrel
              by_cases hlt : k < 32
              · have cx := h5.cell (u32s_get (l := s.list) (i := k / 4) (by show k / 4 < 8; omega))
                obtain ⟨x, hx⟩ : ∃ x, x = s.list.getD (k / 4) 0 := ⟨_, rfl⟩
                rw [← hx] at cx
                have HX := Lib.hid hx; clear hx
                have fx := h6.frozen k
                have hl32 : ((Sha.out s).take k ++ List.replicate (32 - k) (0 : UInt8)).length = 32 := by
                  rw [List.length_append, List.length_take, List.length_replicate, Sha.out_length]; omega
                have c6 := h6.cell (u8s_get (i := k) (by rw [hl32]; exact hlt))
                obtain ⟨old, hold⟩ : ∃ x, x = ((Sha.out s).take k ++ List.replicate (32 - k) (0 : UInt8)).getD k 0 := ⟨_, rfl⟩
                rw [← hold] at c6
                clear hold hl32
                have G6 := Lib.hid h6; clear h6
                have G5 := Lib.hid h5; clear h5
                have GZ := Lib.hid hZ; clear hZ
                have GB := Lib.hid hB; clear hB
                have GK := Lib.hid hK; clear hK
                have lx := lt32 x
                go_wp2
                have hv : ((x.toNat : Int) / 2 ^ (24 - 8 * (k % 4)) % 256) = ((UInt8.ofNat (x.toNat / 2 ^ (24 - 8 * (k % 4)))).toNat : Int) := by
                  rw [show (UInt8.ofNat (x.toNat / 2 ^ (24 - 8 * (k % 4)))).toNat = x.toNat / 2 ^ (24 - 8 * (k % 4)) % 256 from rfl]
                  simp
                rw [hv]
                refine ⟨⟨k + 1, by omega, by go_num, ?_, G5.out.other (by simp; omega) _, GZ.out.other (by simp; omega) _, GB.out.setCell (by simp; omega) _, ?_⟩, by simp [intOf]; omega⟩
                · rw [← Sha.out_set s k hlt, ← HX.out, ← u8s_set]
                  exact G6.out.set _ _
                · rw [Below.heap_setCell _ _ _ _ (by simp; omega)]; exact GK.out
              · have hk32 : k = 32 := by omega
                have h6' : Arr wr W.heap.size (u8s (Sha.out s)) := by
                  rw [hk32, List.take_of_length_le (by rw [Sha.out_length]; omega)] at h6
                  simpa using h6
                have hlo : (u8s (Sha.out s)).length = 32 := by rw [u8s_length, Sha.out_length]
                have G6 := Lib.hid h6'; clear h6 h6' hk32
                have GZ := Lib.hid hZ; clear hZ
                have GB := Lib.hid hB; clear hB
                have GK := Lib.hid hK; clear hK
                have HLO := Lib.hid hlo; clear hlo h5
                go_wp2_with (first
                  | (refine wpList_load_cells rfl _ _ rfl _ 0 rfl (u8s (Sha.out s)) (by rw [HLO.out]; exact agg32) (fun j v hv => by rw [Nat.zero_add]; exact G6.out.cell hv) ?_)
                  | (refine wpList_store_cells rfl rfl _ _ _ rfl _ 0 rfl (u8s (Sha.out s)) rfl (by rw [HLO.out]; exact agg32.2) (u8s_one _) _ GZ.out (by rw [HLO.out, u8s_length, List.length_replicate]; decide) ?_; intro w2 hA2 hG2))
                rw [lay_whole _ _ (by rw [HLO.out, u8s_length, List.length_replicate])] at hA2
                have hDw : w.heap.size < D := by have := HBW.out.size; have := HB5.out; omega
                have hK2 : w2.heap[D]? = some (.deferred (some [])) := by
                  rw [hG2.block D (lt_of_block GK.out) (by intro h; cases h; omega)]; exact GK.out
                refine ⟨by simp, .inl ⟨_, _, rfl, run_takeDeferred hK2, ?_⟩⟩
                have hA3 := hA2.grown (grownBy_putObj' w2 D (.deferred none)) (by intro h; cases h; omega)
                refine ⟨_, results_cells rfl _ w.heap.size rfl (u8s (Sha.out s)) hA3 (by rw [HLO.out]; exact agg32), ?_, ?_⟩
                · rw [HS.out]; rfl
                · refine (GB.out.grown hG2 GB.out.size (by intro k hk; cases hk; omega)).grown (grownBy_putObj' w2 D (.deferred none)) ?_ (by intro k hk; cases hk; omega)
                  exact Nat.le_trans GB.out.size hG2.size
          case stop => exact fun _ _ _ _ _ _ h _ => h.elim
end Go.Proofs.YtmindblfbijaaaaDoor
