/-
  Lemmas, part 6 of 8: walks through the program's functions, and plain Lean about what they compute.
-/
import Derived.Test.YtaclinnjekdgoaaDoorZ1
import Derived.Test.YtaclinnjekdgoaaDoorZ2
import Derived.Test.YtaclinnjekdgoaaDoorZ3
import Derived.Test.YtaclinnjekdgoaaDoorZ4
import Derived.Test.YtaclinnjekdgoaaDoorZ5
set_option linter.unnecessarySimpa false
set_option linter.unusedSimpArgs false
set_option linter.unusedVariables false
set_option maxRecDepth 100000
namespace Go.Proofs.YtaclinnjekdgoaaDoor
open Go.RowKit
section
structure TT (P : Program) (G : zGz) (S : Nm) where
 ty : TypeId -> Option Ty
 zero : TypeId -> Option (List (X P G S))
section
variable {P : Program} {G : zGz} {S : Nm} {R : Type}
structure TT.Ok (T : TT P G S) : Prop where
 zero : ∀ t z, T.zero t = some z -> bK P t = some (X.cs z) /\ flD z = true
def eqI (a b : Int) : Option Unit := if a = b then some () else none
theorem BV {a b : Int} {u : Unit} (h : eqI a b = some u) : a = b := by unfold eqI at h; split at h <;> first | assumption | cases h
def AK (t : TypeId) (x : X P G S) (lo hi mx : Option (X P G S)) (K : X P G S -> Option R) : Option R :=
 match P.underlying t with
 | some (.slice e) => (match asL x with
  | some ⟨τ, xs, fl⟩ => if az P e == some (τ.bd P G S).w then
   (match lo, hi, mx with
   | none, none, none => ob (slc xs 0 (xs.length : Int)) fun ys => K (mkL τ ys fl)
   | some lo, none, none => (match asI lo with
    | some (_, a, _) => ob (slc xs a (xs.length : Int)) fun ys => K (mkL τ ys fl)
    | none => none)
   | none, some hi, none => (match asI hi with
    | some (_, b, _) => ob (slc xs 0 b) fun ys => K (mkL τ ys false)
    | none => none)
   | some lo, some hi, none => (match asI lo, asI hi with
    | some (_, a, _), some (_, b, _) => ob (slc xs a b) fun ys => K (mkL τ ys false)
    | _, _ => none)
   | none, some hi, some mx => (match asI hi, asI mx with
    | some (k, b, _), some (k', c, _) => if k = k' then ob (eqI b c) fun _ => ob (slc xs 0 b) fun ys => K (mkL τ ys true) else none
    | _, _ => none)
   | some lo, some hi, some mx => (match asI lo, asI hi, asI mx with
    | some (_, a, _), some (k, b, _), some (k', c, _) => if k = k' then ob (eqI b c) fun _ => ob (slc xs a b) fun ys => K (mkL τ ys true) else none
    | _, _, _ => none)
   | _, _, _ => none) else none
  | none => none)
 | some (.array n e) => (match x, hi, mx with
  | .ptr [.s (.vec m) v], none, none => if Nat.beq m n && (Nat.ble n 16777216 && az P e == some 1) then (match lo with
   | none => K (.full .u8 v.l)
   | some lo => (match asI lo with
    | some (_, a, _) => ob (slc v.l a (v.l.length : Int)) fun ys => K (.full .u8 ys)
    | none => none)) else none
  | _, _, _ => none)
 | _ => none
theorem IL {h : zHz} {t e : TypeId} {n : Nat} {l ys : zBz} {lo : Option V} {a : Int} (hu : P.underlying t = some (.array n e)) (hs : az P e = some 1) (hl : l.length = n) (hn : n <= 16777216) (hlo : bx lo 0 = some a.toNat) (hv : slc l a (l.length : Int) = some ys) : dI P h t (.d (.ptr n (ay l))) lo none none = some (.d (.list 1 (ys.map fun x => [aG x]) true)) := by
 obtain ⟨h0, h1, h2, rfl⟩ := kX hv; have hc : ft 1 n (ay l) = l.map fun x => [aG x] := by
  have := kO (ay l); rw [show (ay l).length = n by simp [ay, hl]] at this; rw [this]; simp [ay]
 have hlt : a.toNat <= n := by omega
 have hb : bx none n = some n := rfl; have htk : List.take n (l.map fun x => [aG x]) = l.map fun x => [aG x] := List.take_of_length_le (by simp [hl])
 simp only [dI, hu, hs, Option.bind_some, hlo, hb, hc, htk]; rw [if_pos ⟨hlt, Nat.le_refl _, rfl, hn, by omega⟩]; simp only [Int.toNat_natCast, List.take_length, List.map_drop, decide_true]
theorem Gb {h0 : zHz} {t : TypeId} {x : X P G S} {lo hi mx : Option (X P G S)} {K : X P G S -> Option R} {r : R} (h : AK t x lo hi mx K = some r) (len : Nat -> Nat) :
  ∃ z, dI P h0 t (x.V len) (lo.map (X.V len)) (hi.map (X.V len)) (mx.map (X.V len)) = some (z.V len) /\ K z = some r := by
 unfold AK at h; split at h
 ·rename_i e hu; split at h
  ·rename_i τ xs fl hx; rw [uL hx]; split at h
   ·rename_i hs; have hs : az P e = some (τ.bd P G S).w := by simpa using hs
    split at h
    ·obtain ⟨ys, hy, h⟩ := ap h; exact ⟨_, by rw [ta]; exact MO hu hs hy, h⟩
    ·split at h
     ·rename_i ha; obtain ⟨ys, hy, h⟩ := ap h; exact ⟨_, by rw [ta]; simp only [Option.map_some, Option.map_none, dw ha]; exact DP hu hs hy, h⟩
     ·cases h
    ·split at h
     ·rename_i ha; obtain ⟨ys, hy, h⟩ := ap h; exact ⟨_, by rw [ta]; simp only [Option.map_some, Option.map_none, dw ha]; exact DO hu hs hy, h⟩
     ·cases h
    ·split at h
     ·rename_i ha hb; obtain ⟨ys, hy, h⟩ := ap h; exact ⟨_, by rw [ta]; simp only [Option.map_some, Option.map_none, dw ha, dw hb]; exact Ll hu hs hy, h⟩
     ·cases h
    ·split at h
     ·rename_i ha hb; split at h
      ·rename_i hk; subst hk; obtain ⟨_, he, h2⟩ := ap h; obtain ⟨ys, hy, h3⟩ := ap h2; obtain rfl := BV he; exact ⟨_, by rw [ta]; simp only [Option.map_some, Option.map_none, dw ha, dw hb]; exact Lk hu hs hy, h3⟩
      ·cases h
     ·cases h
    ·split at h
     ·rename_i ha hb hc; split at h
      ·rename_i hk; subst hk; obtain ⟨_, he, h2⟩ := ap h; obtain ⟨ys, hy, h3⟩ := ap h2; obtain rfl := BV he; exact ⟨_, by rw [ta]; simp only [Option.map_some, Option.map_none, dw ha, dw hb, dw hc]; exact Kb hu hs hy, h3⟩
      ·cases h
     ·cases h
    ·cases h
   ·cases h
  ·cases h
 ·rename_i n e hu; split at h
  ·rename_i m v; split at h
   ·rename_i hc; simp only [Bool.and_eq_true, beq_iff_eq] at hc; obtain ⟨c1, c2, c3⟩ := hc; obtain rfl := Nat.eq_of_beq_eq_true c1; have c2 : m <= 16777216 := Nat.le_of_ble_eq_true c2; have hp : X.V len (.ptr [.s (.vec m) v] : X P G S) = .d (.ptr m (ay v.l)) := by
     show V.d (.ptr (m + 0) (ay v.l ++ [])) = _; rw [List.append_nil]; rfl
    rw [hp]; split at h
    ·refine ⟨_, IL (a := 0) (ys := v.l) hu c3 v.h c2 rfl (by simp [slc]), h⟩
    ·split at h
     ·rename_i ha; obtain ⟨ys, hy, h⟩ := ap h; refine ⟨_, IL (ys := ys) hu c3 v.h c2 (by
       obtain ⟨h0, _⟩ := kX hy; rw [Option.map_some, dw ha]; simp [bx, iI, h0]) hy, h⟩
     ·cases h
   ·cases h
  ·cases h
 ·cases h
def inI (k : IntKind) (n : Int) : Bool := decide (k.wrap n = n)
def wide (k1 k2 : IntKind) : Bool :=
 match k1, k2 with
 | .u16, .i64 | .u32, .i64 | .i32, .i64 | .i64, .i64 | .u8, .i64 | .u32, .u64 | .u8, .u32 => true
 | _, _ => false
def CZ (s d : TypeId) (x : X P G S) (K : X P G S -> Option R) : Option R :=
 match P.underlying s, P.underlying d with
 | some (.slice e), some .string => (match P.underlying e, x with
  | some (.int .u8), .s (.lst .u8) xs => K (.s .str xs)
  | some (.int .u8), .full .u8 xs => K (.s .str xs)
  | some (.int .u8), .nil => K (.s .str [])
  | _, _ => none)
 | some _, some (.int k) => (match asI x with
  | some (k1, n, lit) => (match lit && inI k n with
   | true => K (.lit k n)
   | false => (match k with
    | .u8 => K (.s .u8 (w8 n))
    | k => (match x, k with
     | .s .u8 _, .i64 | .s .u8 _, .u32 | .s .u8 _, .u64 => K (.s (.int k) n)
     | _, _ => if wide k1 k then ob (arI k n) fun z => K (.s (.int k) z) else K (.s (.int k) (k.wrap n)))))
  | none => none)
 | _, _ => none
theorem GC {s d : TypeId} {x : X P G S} {K : X P G S -> Option R} {r : R} (h : CZ s d x K = some r) (len : Nat -> Nat) : ∃ z, fM P s d (x.V len) = some (z.V len) /\ K z = some r := by
 unfold CZ at h; split at h
 ·rename_i e h1 h2; split at h
  ·rename_i xs h3; exact ⟨.s .str xs, wB (l := xs) (b := false) h1 h2 h3, h⟩
  ·rename_i xs h3; exact ⟨.s .str xs, wB (l := xs) (b := true) h1 h2 h3, h⟩
  ·rename_i h3; refine ⟨.s .str [], ?_, h⟩; show fM P s d (.d (.list 0 [] true)) = some (.d (.v (.string ⟨([] : zBz).toArray⟩))); simp [fM, h1, h2, h3, nB]
  ·cases h
 ·rename_i td k h1 h2; split at h
  ·rename_i k1 n lit hx; split at h
   ·rename_i hc; simp only [Bool.and_eq_true, inI, decide_eq_true_eq] at hc; exact ⟨.lit k n, by rw [dw hx]; exact fh h1 h2 hc.2, h⟩
   ·split at h
    ·exact ⟨.s .u8 (w8 n), by rw [dw hx]; exact Jc h1 h2, h⟩
    ·split at h
     ·rename_i b _ _; cases hx; exact ⟨.s (.int .i64) (UInt8.toNat b : Int), fh (k2 := .u8) h1 h2 (kq b), h⟩
     ·rename_i b _ _; cases hx; exact ⟨.s (.int .u32) (UInt8.toNat b : Int), fh (k2 := .u8) h1 h2 (BH b), h⟩
     ·rename_i b _ _; cases hx; exact ⟨.s (.int .u64) (UInt8.toNat b : Int), fh (k2 := .u8) h1 h2 (BI b), h⟩
     ·split at h
      ·obtain ⟨z, hz, h⟩ := ap h; exact ⟨.s (.int k) z, by rw [dw hx]; exact Jb h1 h2 hz, h⟩
      ·exact ⟨.s (.int k) (k.wrap n), by rw [dw hx]; exact wV h1 h2, h⟩
  ·cases h
 ·cases h
def yT (M : SX P G S) (τ : Ty) : Nat -> List (Nat × X P G S) -> (List (Den P G S τ) -> Option R) -> Option R
 | _, [], K => K []
 | k, (i, x) :: r, K => if Nat.beq i k then M.decV true τ x fun v => yT M τ (k + 1) r fun vs => K (v :: vs) else none
def Ty.val : Ty -> Bool
 | .unit | .pair .. => false
 | _ => true
theorem DB {τ : Ty} {v : Den P G S τ} (h : τ.val = true) : eU (τ.bd P G S).w (.d ((τ.bd P G S).one v)) = some ((τ.bd P G S).cells v) := by
 cases τ with
 | unit => cases h
 | pair => cases h
 | vec n => show (if n = n then some (ay v.l) else none) = some (ay v.l); simp
 | nm i => show (if S.w i = S.w i then some (S.row i v) else none) = some (S.row i v); simp
 | _ => rfl
theorem GE {M : SX P G S} (hM : M.Ok) {τ : Ty} (hτ : τ.val = true) (len : Nat -> Nat) : ∀ {ps : List (Nat × X P G S)} {k : Nat} {K : List (Den P G S τ) -> Option R} {r : R}, yT M τ k ps K = some r ->
  ∃ vs, K vs = some r /\ PartsQ (τ.bd P G S).w k (ps.map fun e => (e.1, X.V len e.2)) (vs.map (τ.bd P G S).cells) := by
 intro ps
 induction ps with
 | nil => intro k K r h; exact ⟨[], h, .nil k⟩
 | cons e ps ih =>
  intro k K r h; obtain ⟨i, x⟩ := e; unfold yT at h; split at h
  ·rename_i hi; obtain rfl := Nat.eq_of_beq_eq_true hi; obtain ⟨v, h, hv⟩ := hM.decV h; obtain ⟨vs, h, hp⟩ := ih h; refine ⟨v :: vs, h, .cons ?_ hp⟩; rw [ci hv.d, hv.e rfl]; exact DB hτ
  ·cases h
def pb (M : SX P G S) (T : TT P G S) (t : TypeId) (n : Nat) (ps : List (Nat × X P G S)) (K : X P G S -> Option R) : Option R :=
 match P.underlying t with
 | some (.slice e) => (match T.ty e with
  | some τ => if τ.val && (az P e == some (τ.bd P G S).w) then
   (match n, ps with
   | 0, [] => K (.full τ [])
   | n, ps => (match bK P e with
    | some z => if (z.length == (τ.bd P G S).w) && (Nat.ble 1 (n * (τ.bd P G S).w) && Nat.ble (n * (τ.bd P G S).w) 16777216 && Nat.ble n 16777216) && (ps.length == n) then yT M τ 0 ps fun vs => K (.full τ vs) else none
    | none => none)) else none
  | none => none)
 | _ => none
theorem wz {M : SX P G S} (hM : M.Ok) {T : TT P G S} {t : TypeId} {n : Nat} {ps : List (Nat × X P G S)} {K : X P G S -> Option R} {r : R} (h : pb M T t n ps K = some r) (len : Nat -> Nat) :
  ∃ z, bn P t n (ps.map fun e => (e.1, X.V len e.2)) = some (z.V len) /\ K z = some r := by
 unfold pb at h; split at h
 ·rename_i e hu; split at h
  ·rename_i τ _; split at h
   ·rename_i hc; simp only [Bool.and_eq_true, beq_iff_eq] at hc; split at h
    ·exact ⟨.full τ [], tz (α := Den P G S τ) (row := (τ.bd P G S).cells) hu hc.2, h⟩
    ·split at h
     ·rename_i z hz; split at h
      ·rename_i hq; simp only [Bool.and_eq_true, beq_iff_eq] at hq; obtain ⟨vs, h, hp⟩ := GE hM hc.1 len h; refine ⟨_, me hu hc.2 hz hq.1.1 (by simp only [Bool.and_eq_true]; exact hq.1.2) hp (by simpa using hq.2), h⟩
      ·cases h
     ·cases h
   ·cases h
  ·cases h
 ·cases h
def DC (s : Nat) (x : X P G S) : Option (List (X P G S)) :=
 match x with
 | .agg ys => if (X.ws ys == s) && flD ys then some ys else none
 | x => if (s == 1) && x.one && x.isD then some [x] else none
theorem vH {x : X P G S} (h : x.one = true) (hd : x.isD = true) (len : Nat -> Nat) : eU 1 (x.V len) = some x.c := by
 rw [ci hd]; cases x with
 | s t v =>
  cases t with
  | _ => first | rfl | simp [X.one, X.fl] at h
 | _ => first | rfl | simp [X.one, X.fl] at h
theorem Hq {s : Nat} {x : X P G S} {ys : List (X P G S)} (h : DC s x = some ys) (len : Nat -> Nat) : eU s (x.V len) = some (X.cs ys) /\ flD ys = true /\ X.ws ys = s := by
 unfold DC at h; split at h
 ·rename_i zs; split at h
  ·rename_i hc; cases h; simp only [Bool.and_eq_true, beq_iff_eq] at hc; refine ⟨?_, hc.2, hc.1⟩; rw [ci (x := .agg ys) (cd hc.2).1]; show (if X.ws ys = s then some (X.cs ys) else none) = _; rw [if_pos hc.1]
  ·cases h
 ·split at h
  ·rename_i hc; cases h; simp only [Bool.and_eq_true, beq_iff_eq] at hc; obtain ⟨⟨rfl, h1⟩, h2⟩ := hc; refine ⟨by rw [vH h1 h2, jX], ?_, ?_⟩
   ·have : x.fl = true := by unfold X.one at h1; split at h1 <;> first | cases h1; done | exact h1
    show (x.fl && x.isD && true) = true; rw [this, h2]; rfl
   ·show x.w + 0 = 1; rw [(tO h1 fun _ => 0).2]
  ·cases h
def DZ (cs : List (X P G S)) (off s : Nat) (new : List (X P G S)) : Option (List (X P G S)) :=
 match tl cs off, gP cs (off + s) with
 | some pre, some post => some (pre ++ (new ++ post))
 | _, _ => none
theorem Cr {cs new r : List (X P G S)} {off s : Nat} (h : DZ cs off s new = some r) (hf : flD cs = true) (hn : flD new = true) (hs : X.ws new = s) :
  flD r = true /\ X.cs r = (X.cs cs).take off ++ (X.cs new ++ (X.cs cs).drop (off + s)) /\ off + s <= (X.cs cs).length := by
 unfold DZ at h; split at h
 ·rename_i pre post hp hq; cases h; obtain ⟨g1, g2, q, e⟩ := ut hp; obtain ⟨g1, g3⟩ := g1 fun _ => 0
  obtain ⟨k1, k2, p, e'⟩ := kz hq fun _ => 0
  have hd := (cd hf).1; have hpre : flD pre = true := by rw [e, jL, Bool.and_eq_true] at hf; exact hf.1
  have hpost : flD post = true := by rw [e', jL, Bool.and_eq_true] at hf; exact hf.2
  rw [fg hd, fg (cd hpre).1, <- List.map_take] at g1; rw [fg hd, fg (cd hpost).1, <- List.map_drop] at k1; rw [fg hd, List.length_map] at k2; refine ⟨by rw [jL, jL, hpre, hn, hpost]; rfl, ?_, k2⟩; rw [mo, mo, oH g1, oH k1]
 ·cases h
def sQ (pl : Nat -> Option (Nat × Nat)) : List (Nat × X P G S) -> List (X P G S) -> Option (List (X P G S))
 | [], cs => some cs
 | (i, x) :: r, cs => match pl i with
  | some (off, s) => (match DC s x with
   | some ys => if Nat.ble 1 s then (match DZ cs off s ys with
    | some cs' => sQ pl r cs'
    | none => none) else none
   | none => none)
  | none => none
theorem FX {α : Type} (l : List α) (i : Nat) (x : α) (h : i < l.length) : l.set i x = l.take i ++ x :: l.drop (i + 1) := by
 rw [List.set_eq_take_append_cons_drop, if_pos h]
theorem tZ {pl : Nat -> Option (Nat × Nat)} (len : Nat -> Nat) : ∀ {ps : List (Nat × X P G S)} {cs r : List (X P G S)}, sQ pl ps cs = some r -> flD cs = true ->
  ez pl (ps.map fun e => (e.1, X.V len e.2)) (X.cs cs) = some (X.cs r) /\ flD r = true := by
 intro ps
 induction ps with
 | nil => intro cs r h hf; cases h; exact ⟨rfl, hf⟩
 | cons e ps ih =>
  intro cs r h hf; obtain ⟨i, x⟩ := e; unfold sQ at h; split at h
  ·rename_i off s hpl; split at h
   ·rename_i ys hys; split at h
    ·rename_i h1s; have h1s := Nat.le_of_ble_eq_true h1s; split at h
     ·rename_i cs' hu; obtain ⟨p1, p2, p3⟩ := Hq hys len; obtain ⟨u1, u2, u3⟩ := Cr hu hf p2 p3; obtain ⟨i1, i2⟩ := ih h u1; refine ⟨?_, i2⟩; have hyl : (X.cs ys).length = s := by rw [(cd p2).2, p3]
      simp only [List.map_cons, ez, hpl, Option.bind_some, p1, if_pos u3]; rw [<- i1]
      congr 1
      split
      ·rename_i hs1; subst hs1; obtain ⟨y, hy⟩ := List.length_eq_one_iff.1 hyl; rw [u2, hy]; show (X.cs cs).set off y = _; rw [FX _ _ _ (by omega)]; simp
      ·split
       ·rename_i hs2; have h0 : off = 0 := by omega
        subst h0; rw [u2, List.take_zero, List.nil_append, List.drop_of_length_le (by omega), List.append_nil]
       ·rw [u2]; unfold lU; rw [hyl, List.append_assoc]
     ·cases h
    ·cases h
   ·cases h
  ·cases h
def zt (T : TT P G S) (t : TypeId) (ps : List (Nat × X P G S)) (K : X P G S -> Option R) : Option R :=
 match P.underlying t, T.zero t with
 | some (.struct fs), some z => if fs.toList.all (fun f => (az P f.type).isSome) then (match kU P t with
  | some pl => (match ps with
   | (0, .own l) :: r => (match z with
    | z0 :: zs => if ((pl[0]? == some (0, 1)) && (r.all fun e => match pl[e.1]? with | some q => Nat.ble 1 q.1 | none => false)) && (z0.w == 1) then
     (match sQ (fun i => pl[i]?) r z with
     | some (c0 :: cs) => if c0.w == 1 then K (.agg (.own l :: cs)) else none
     | _ => none) else none
    | [] => none)
   | ps => (match sQ (fun i => pl[i]?) ps z with
    | some cs => if X.ws cs == X.ws z then K (.agg cs) else none
    | none => none))
  | none => none) else none
 | some (.array _ e), some z => (match az P e with
  | some s => (match sQ (fun i => some (i * s, s)) ps z with
   | some cs => if X.ws cs == X.ws z then K (.agg cs) else none
   | none => none)
  | none => none)
 | _, _ => none
theorem EB {T : TT P G S} (hT : T.Ok) {t : TypeId} {ps : List (Nat × X P G S)} {K : X P G S -> Option R} {r : R} (h : zt T t ps K = some r) (len : Nat -> Nat) :
  ∃ z, dS P t (ps.map fun e => (e.1, X.V len e.2)) = some (z.V len) /\ K z = some r /\ ((∃ fs, P.underlying t = some (.struct fs) /\ (fs.toList.all fun f => (az P f.type).isSome) = true) \/ ∃ n e, P.underlying t = some (.array n e)) := by
 unfold zt at h; split at h
 ·rename_i fs z hu hz; obtain ⟨hz, hzf⟩ := hT.zero _ _ hz; split at h
  ·rename_i hall; split at h
   ·rename_i pl hpl; split at h
    ·rename_i l q; split at h
     ·rename_i z0 zs _; split at h
      ·rename_i hc; simp only [Bool.and_eq_true, beq_iff_eq] at hc; split at h
       ·rename_i c0 cs hfl; split at h
        ·rename_i hw; have hw : c0.w = 1 := by simpa using hw
         obtain ⟨f1, f2⟩ := tZ len hfl hzf; refine ⟨_, ?_, h, .inl ⟨fs, hu, hall⟩⟩; have hz1 : 0 < (X.cs (z0 :: zs)).length := by
          rw [(cd hzf).2]; show 0 < z0.w + X.ws zs; rw [hc.2]; omega
         have hcs : flD cs = true := by simp only [flD, Bool.and_eq_true] at f2; exact f2.2
         have := CW (n := len l) (l := l) hz hpl (by simpa using hc.1.1) hz1 (by
          rw [List.all_eq_true]; intro e he; obtain ⟨a, ha, rfl⟩ := List.mem_map.1 he; exact (List.all_eq_true.1 hc.1.2) a ha) f1
         rw [List.map_cons]; refine this.trans ?_; have e1 : X.cs (c0 :: cs) = c0.c ++ X.cs cs := rfl; have hc0 : c0.c.length = 1 := by
          simp only [flD, Bool.and_eq_true] at f2; rw [pW f2.1.1 f2.1.2, hw]
         rw [e1, List.drop_append, hc0, List.drop_of_length_le (by omega)]; simp only [Nat.sub_self, List.drop_zero, List.nil_append, X.V, (cd hcs).1, if_true]
        ·cases h
       ·cases h
      ·cases h
     ·cases h
    ·split at h
     ·rename_i cs hfl; split at h
      ·rename_i hw; have hw : X.ws cs = X.ws z := by simpa using hw
       obtain ⟨f1, f2⟩ := tZ len hfl hzf; refine ⟨_, ?_, h, .inl ⟨fs, hu, hall⟩⟩; rw [ci (x := .agg cs) (cd f2).1]; refine (ku hz hpl (cd hzf).2 f1).trans ?_; show some (V.d (.agg (X.ws z) (X.cs cs))) = some (V.d (.agg (X.ws cs) (X.cs cs))); rw [hw]
      ·cases h
     ·cases h
   ·cases h
  ·cases h
 ·rename_i n e z hu hz; obtain ⟨hz, hzf⟩ := hT.zero _ _ hz; split at h
  ·rename_i s hs; split at h
   ·rename_i cs hfl; split at h
    ·rename_i hw; have hw : X.ws cs = X.ws z := by simpa using hw
     obtain ⟨f1, f2⟩ := tZ len hfl hzf; refine ⟨_, ?_, h, .inr ⟨n, e, hu⟩⟩; rw [ci (x := .agg cs) (cd f2).1]; refine (CV hu hs hz (cd hzf).2 f1).trans ?_; show some (V.d (.agg (X.ws z) (X.cs cs))) = some (V.d (.agg (X.ws cs) (X.cs cs))); rw [hw]
    ·cases h
   ·cases h
  ·cases h
 ·cases h
end
end
section
section
variable {P : Program} {G : zGz} {S : Nm} {R : Type}
def zC (env : List (Nat × X P G S)) : Option Operand -> Option (Option (X P G S))
 | none => some none
 | some x => (evX env x).map some
def zE (env : List (Nat × X P G S)) : List (Nat × Operand) -> Option (List (Nat × X P G S))
 | [] => some []
 | (i, x) :: r => match evX env x, zE env r with
  | some y, some ys => some ((i, y) :: ys)
  | _, _ => none
def qg (env : List (Nat × X P G S)) : List Operand -> Option (List (X P G S))
 | [] => some []
 | x :: r => match evX env x, qg env r with
  | some y, some ys => some (y :: ys)
  | _, _ => none
variable {env : List (Nat × X P G S)} {hh : List (Nat × B P G S)} {len : Nat -> Nat}
theorem tX {x : Option Operand} {y : Option (X P G S)} (h : zC env x = some y) : evO (evB G (dq len env)) x = some (y.map (X.V len)) := by
 cases x with
 | none => cases h; rfl
 | some x =>
  simp only [zC, Option.map_eq_some_iff] at h; obtain ⟨z, hz, rfl⟩ := h; simp only [evO, bu hz, Option.map_some]
theorem tY : ∀ {ps : List (Nat × Operand)} {qs : List (Nat × X P G S)}, zE env ps = some qs -> dP (evB G (dq len env)) ps = some (qs.map fun e => (e.1, X.V len e.2)) := by
 intro ps
 induction ps with
 | nil => intro qs h; cases h; rfl
 | cons e ps ih =>
  intro qs h; obtain ⟨i, x⟩ := e; unfold zE at h; split at h
  ·rename_i y ys h1 h2; cases h; simp only [dP, bu h1, Option.bind_some, ih h2, Option.map_some, List.map_cons]
  ·cases h
theorem qh : ∀ {ps : List Operand} {qs : List (X P G S)}, qg env ps = some qs -> X.allD qs = true -> bE (evB G (dq len env)) ps = some (X.ds qs) := by
 intro ps
 induction ps with
 | nil => intro qs h _; cases h; rfl
 | cons x ps ih =>
  intro qs h hd; unfold qg at h; split at h
  ·rename_i y ys h1 h2; cases h; have hd' : (y.isD && X.allD ys) = true := hd; rw [Bool.and_eq_true] at hd'; simp only [bE, bu h1, Option.bind_some, ci hd'.1, ih h2 hd'.2, Option.map_some]; rfl
  ·cases h
def vop (M : SX P G S) (T : TT P G S) (env : List (Nat × X P G S)) (h : List (Nat × B P G S)) (op : Op) (K : X P G S -> Option R) : Option R :=
 match op with
 | .move x => (match evX env x with
  | some y => K y
  | none => none)
 | .assign x => (match evX env x with
  | some y => K y
  | none => none)
 | .pick c a b => (match evX env c with
  | some (.bl true) => (match evX env a with
   | some y => K y
   | none => none)
  | some (.bl false) => (match evX env b with
   | some y => K y
   | none => none)
  | _ => none)
 | .load t x => (match evX env x with
  | some y => za M h t y K
  | none => none)
 | .nilCheck x => (match evX env x with
  | some (.ref l o) => K (.ref l o)
  | some (.ptr cs) => if X.allD cs then K (.ptr cs) else none
  | _ => none)
 | .binOp op t x y _ => (match evX env x, evX env y with
  | some a, some b => Gq op t a b K
  | _, _ => none)
 | .unOp op _ x => (match evX env x with
  | some a => (match op with
   | .not => (match asB a with
    | some (b, lit) => K (mkB lit (!b))
    | none => none)
   | .neg => (match asI a with
    | some (k, n, lit) => arX lit k (0 - n) K
    | none => none)
   | _ => none)
  | none => none)
 | .convert s t x => (match evX env x with
  | some y => CZ s t y K
  | none => none)
 | .slice t x lo hi mx => (match evX env x, zC env lo, zC env hi, zC env mx with
  | some y, some lo, some hi, some mx => AK t y lo hi mx K
  | _, _, _, _ => none)
 | .fieldAddr t x f => (match evX env x with
  | some y => qw t y f K
  | none => none)
 | .field t x f => (match evX env x with
  | some y => zH t y f K
  | none => none)
 | .indexAddr t x i => (match evX env x, evX env i with
  | some y, some i => qE M h t y i K
  | _, _ => none)
 | .extract x i => (match evX env x with
  | some (.tup xs) => if X.allD xs then (match xs[i]? with
   | some y => K y
   | none => none) else none
  | _ => none)
 | .build t ps => (match zE env ps.toList with
  | some qs => zt T t qs K
  | none => none)
 | .buildSlice t n ps => (match zE env ps.toList with
  | some qs => pb M T t n qs K
  | none => none)
 | .makeFunc (.func f) first caps => if first.isEmpty then (match qg env caps.toList with
  | some ys => if X.allD ys then K (.fn f ys) else none
  | none => none) else none
 | .call ⟨.builtin b, args, ts⟩ => (match b, args.toList, ts.toList with
  | .len, [x], [t] => (match evX env x with
   | some y => He h t y K
   | none => none)
  | .min, [x, y], _ => (match evX env x, evX env y with
   | some a, some b => (match asI a, asI b with
    | some (.i64, a, _), some (.i64, b, _) => K (.s (.int .i64) (min a b : Int))
    | _, _ => none)
   | _, _ => none)
  | .max, [x, y], _ => (match evX env x, evX env y with
   | some a, some b => (match asI a, asI b with
    | some (.i64, a, _), some (.i64, b, _) => K (.s (.int .i64) (max a b : Int))
    | _, _ => none)
   | _, _ => none)
  | _, _, _ => none)
 | _ => none
theorem KS {P : Program} {ts : Array TypeId} {T : TypeId} {a b : Int} : aD P (Builtin.max_ ts T #[.int .i64 a, .int .i64 b]) = some (.int .i64 (max a b)) := by
 by_cases hb : a < b
 ·rw [Int.max_eq_right (by omega)]; simp [Builtin.max_, Builtin.max2, bM, hb]
 ·rw [Int.max_eq_left (by omega)]; simp [Builtin.max_, Builtin.max2, bM, hb]
theorem toL {α : Type} {a : Array α} {l : List α} (h : a.toList = l) : a = l.toArray := by cases a; simp at h; rw [h]
theorem Cv {M : SX P G S} (hM : M.Ok) {T : TT P G S} (hT : T.Ok) (hL : uz hh len) {o : Oper} {K : X P G S -> Option R} {r : R} (h : vop M T env hh o.op K = some r) :
  ∃ z, opV P (evD G (dq len env)) (dz len hh) o = some (z.V len) /\ K z = some r := by
 generalize ho : o.op = op at h; unfold vop at h; split at h
 ·split at h
  ·rename_i hx; exact ⟨_, kE ho (bu hx), h⟩
  ·cases h
 ·split at h
  ·rename_i hx; exact ⟨_, vE ho (bu hx), h⟩
  ·cases h
 ·split at h
  ·rename_i hc; split at h
   ·rename_i hx; exact ⟨_, aO ho (bu hc) (bu hx), h⟩
   ·cases h
  ·rename_i hc; split at h
   ·rename_i hx; exact ⟨_, aU ho (bu hc) (bu hx), h⟩
   ·cases h
  ·cases h
 ·split at h
  ·rename_i hx; obtain ⟨z, h1, h2⟩ := Ab hM h; exact ⟨z, ae ho (bu hx) h1, h2⟩
  ·cases h
 ·split at h
  ·rename_i l off hx; exact ⟨.ref l off, bt ho (bu hx), h⟩
  ·rename_i cs hx; split at h
   ·rename_i hd; have e := ci (len := len) (x := .ptr cs) hd; exact ⟨.ptr cs, by rw [e]; exact yJ ho (by rw [bu hx, e]; rfl), h⟩
   ·cases h
  ·cases h
 ·split at h
  ·rename_i hx hy; exact IV ho (bu hx) (bu hy) h
  ·cases h
 ·split at h
  ·rename_i hx; split at h
   ·split at h
    ·rename_i b lit hb; exact ⟨_, by rw [qK]; exact eM ho (by rw [bu hx, zo hb]) (su _), h⟩
    ·cases h
   ·split at h
    ·rename_i k n lit hb; obtain ⟨z, v, h1, h2, h3⟩ := rH h; exact ⟨z, by rw [h2]; exact eM ho (by rw [bu hx, dw hb]) (KV h1), h3⟩
    ·cases h
   ·cases h
  ·cases h
 ·split at h
  ·rename_i hx; obtain ⟨z, h1, h2⟩ := GC h len; exact ⟨z, cB ho (bu hx) h1, h2⟩
  ·cases h
 ·split at h
  ·rename_i h1 h2 h3 h4; obtain ⟨z, g1, g2⟩ := Gb (h0 := (dz len hh)) h len; exact ⟨z, bC ho (bu h1) (tX h2) (tX h3) (tX h4) g1, g2⟩
  ·cases h
 ·split at h
  ·rename_i hx; obtain ⟨z, h1, h2⟩ := yD h len; exact ⟨z, ag ho (bu hx) h1, h2⟩
  ·cases h
 ·split at h
  ·rename_i hx; obtain ⟨z, h1, h2⟩ := EP h len; exact ⟨z, se ho (bu hx) h1, h2⟩
  ·cases h
 ·split at h
  ·rename_i hx hi; obtain ⟨z, h1, h2⟩ := yG hM hL h; exact ⟨z, ak ho (bu hx) (bu hi) h1, h2⟩
  ·cases h
 ·split at h
  ·rename_i xs hx; split at h
   ·rename_i hd; split at h
    ·rename_i y hy; refine ⟨y, ?_, h⟩; have hyd : y.isD = true := X.allD_iff.1 hd y (List.mem_of_getElem? hy); rw [ci hyd]; refine pj ho (xs := X.ds xs) ?_ ?_
     ·rw [bu hx, ci (x := .tup xs) hd]; rfl
     ·rw [BK, List.getElem?_map, hy]; rfl
    ·cases h
   ·cases h
  ·cases h
 ·rename_i t ps; split at h
  ·rename_i qs hq; obtain ⟨z, h1, h2, h3⟩ := EB hT h len; have ho' : o.op = .build t ps.toList.toArray := by rw [ho]
   rcases h3 with ⟨fs, hu, ha⟩ | ⟨n, e, hu⟩
   ·exact ⟨z, cZ ho' hu ha (tY hq) h1, h2⟩
   ·exact ⟨z, gw ho' hu (tY hq) h1, h2⟩
  ·cases h
 ·rename_i t n ps; split at h
  ·rename_i qs hq; obtain ⟨z, h1, h2⟩ := wz hM h len; have ho' : o.op = .buildSlice t n ps.toList.toArray := by rw [ho]
   exact ⟨z, bc ho' (tY hq) h1, h2⟩
  ·cases h
 ·rename_i f first caps
  split at h
  ·rename_i he; split at h
   ·rename_i ys hy; split at h
    ·rename_i hd; refine ⟨.fn f ys, ?_, h⟩; rw [ci (x := .fn f ys) hd]; have := jk (G := G) (qh (len := len) hy hd); simp only [opV, ho, he, if_true, this, Option.map_some]; rfl
    ·cases h
   ·cases h
  ·cases h
 ·rename_i b args ts; split at h
  ·rename_i x t h1 h2; split at h
   ·rename_i y hx; obtain ⟨z, g1, g2⟩ := Jo hL h; exact ⟨z, aJ (by rw [ho, toL h1, toL h2]) (bu hx) g1, g2⟩
   ·cases h
  ·rename_i x y h1; split at h
   ·rename_i a b hx hy; split at h
    ·rename_i ha hb; exact ⟨_, Jv (by rw [ho, toL h1]) (by rw [bu hx, dw ha]) (by rw [bu hy, dw hb]) KT, h⟩
    ·cases h
   ·cases h
  ·rename_i x y h1; split at h
   ·rename_i a b hx hy; split at h
    ·rename_i ha hb; exact ⟨_, Ju (by rw [ho, toL h1]) (by rw [bu hx, dw ha]) (by rw [bu hy, dw hb]) KS, h⟩
    ·cases h
   ·cases h
  ·cases h
 ·cases h
theorem sO {d : DS P G S} {ps : List Operand} {qs : List (X P G S)} (h : qg d.env ps = some qs) (hd : X.allD qs = true) : bE (evB G d.enc.env) ps = some (X.ds qs) := qh h hd
theorem Lq {d : DS P G S} {M : SX P G S} (hM : M.Ok) {T : TT P G S} (hT : T.Ok) {o : Oper} {K : X P G S -> Option R} {r : R} (h : vop M T d.env d.h o.op K = some r) :
  ∃ z, opV P (evD G d.enc.env) d.enc.h o = some (z.V (am d.h)) /\ K z = some r := Cv hM hT (Dr d.h) h
end
end
section
section
variable {F : Fr} {env env' : zEz} {h h' : zHz} {nx nx' : Nat}
theorem uF (hE : ∀ t y, look env' t = some y -> y = .any \/ ∃ x, look env t = some x /\ V.le x y) (hH : ∀ l k', look h' l = some k' -> ∃ k, look h l = some k /\ fJ k k') (hn : nx <= nx') : St.to F ⟨env, h, nx⟩ ⟨env', h', nx'⟩ := by
 intro μ C a w hs; have hdom : ∀ l, (look h' l).isSome = true -> (look h l).isSome = true := fun l hl => by
  obtain ⟨k, hk⟩ := Option.isSome_iff_exists.1 hl; obtain ⟨k0, h0, _⟩ := hH l k hk; rw [h0]; rfl
 refine ⟨μ, C, hs.size, hs.defers, hs.below, hs.sub, hs.new, hs.known, fun t y hy => ?_, fun l k hk => ?_, fun l l' p p' h1 h2 => hs.inj l l' p p' (hdom l h1) (hdom l' h2), fun l hl => hs.nx l (Nat.le_trans hn hl),
  F.stab hs.gh ⟨rfl, rfl, rfl, Nat.le_refl _, fun _ _ _ h => h, fun l hl => .inl (hdom l hl), fun _ _ _ => rfl, fun b ⟨l, k, p, h1, h2⟩ => ?_, fun _ _ _ h => h, fun _ _ _ h => .inl h, hs.known⟩⟩
 ·rcases hE t y hy with rfl | ⟨x, h1, h2⟩
  ·exact trivial
  ·exact h2 μ C _ (hs.env t x h1)
 ·obtain ⟨k0, h0, hb⟩ := hH l k hk; obtain ⟨p, hp, hok⟩ := hs.heap l k0 h0; refine ⟨p, hp, hok.sz.trans hb.1, by rw [<- hb.2.1.length]; exact hok.len, hok.max, fun r hr => ?_, fun hc => ?_⟩
  ·obtain ⟨i, hi⟩ := List.getElem?_of_mem hr; obtain ⟨r0, h1, h2⟩ := hb.2.1.get i r hi; rw [<- h2.length, <- hb.1]; exact hok.row r0 (List.mem_of_getElem? h1)
  ·obtain ⟨c1, c2, cur, T, c3, c4, c5⟩ := hok.cells hc; rw [hb.2.2] at c3; refine ⟨c1, c2, cur, T, c3, c4, fun i r hr j x hx => ?_⟩; obtain ⟨r0, h1, h2⟩ := hb.2.1.get i r hr; obtain ⟨x0, h3, h4⟩ := h2.get j x hx; obtain ⟨u, g1, g2, g3⟩ := c5 i r0 h1 j x0 h3; rw [hb.1] at g1; exact ⟨u, g1, g2, h4 μ C u g3⟩
 ·obtain ⟨k0, h0, _⟩ := hH l k h1; exact .inl ⟨l, k0, p, h0, h2⟩
theorem El (hE : ∀ t y, look env' t = some y -> ∃ x, look env t = some x /\ V.le x y) (hH : ∀ l k', look h' l = some k' -> ∃ k, look h l = some k /\ fJ k k') (hn : nx <= nx') : St.to F ⟨env, h, nx⟩ ⟨env', h', nx'⟩ := uF (fun t y h => .inr (hE t y h)) hH hn
theorem jH {st st' : St} (hE : ∀ t y, look st'.env t = some y -> ∃ x, look st.env t = some x /\ V.le x y) (hH : ∀ l k', look st'.h l = some k' -> ∃ k, look st.h l = some k /\ fJ k k') (hn : st.nx <= st'.nx) : St.to F st st' := by
 cases st; cases st'; exact El hE hH hn
end
section
variable {P : Program} {G : zGz} {S : Nm}
def cat (b d : DS P G S) : DS P G S := ⟨d.env ++ b.env, d.h ++ b.h, d.nx⟩
def DS.put (d : DS P G S) (t : Nat) (x : X P G S) : DS P G S := ⟨(t, x) :: d.env, d.h, d.nx⟩
theorem bm {α : Type} (a b : List (Nat × α)) (t : Nat) : af (a ++ b) t = (af a t).or (af b t) := by
 induction a with
 | nil => rfl
 | cons e r ih =>
  obtain ⟨k, x⟩ := e; simp only [List.cons_append, af]; cases Nat.beq k t with
  | true => rfl
  | false => exact ih
def ovl {α : Type} (g : α -> α) (tch : α -> Bool) (b : List (Nat × α)) : List (Nat × α) -> List (Nat × α)
 | [] => []
 | (t, x) :: r => if tch x then (match af b t with
  | some y => if tch y then (t, g y) :: ovl g tch b r else ovl g tch b r
  | none => ovl g tch b r) else ovl g tch b r
def up1 {α : Type} (g : α -> α) (tch : α -> Bool) (x : α) : α := if tch x then g x else x
theorem Ad {α : Type} (g : α -> α) (tch : α -> Bool) (b : List (Nat × α)) (t : Nat) : ∀ (r : List (Nat × α)), (∀ y, af (ovl g tch b r) t = some y -> ∃ x, af b t = some x /\ tch x = true /\ y = g x) /\ (∀ x, af b t = some x -> tch x = true -> af r t = some x -> af (ovl g tch b r) t = some (g x))
 | [] => ⟨fun y h => by simp [ovl, af] at h, fun x _ _ h => by simp [af] at h⟩
 | (s, x) :: r => by
  obtain ⟨i1, i2⟩ := Ad g tch b t r; unfold ovl; by_cases hs : s = t
  ·subst hs; have e : Nat.beq s s = true := Nat.beq_refl s; constructor
   ·intro y hy; split at hy
    ·split at hy
     ·rename_i z hz; split at hy
      ·rename_i hc; simp only [af, e, Option.some.injEq] at hy; exact ⟨z, hz, hc, hy.symm⟩
      ·exact i1 y hy
     ·exact i1 y hy
    ·exact i1 y hy
   ·intro z hz hc hr; simp only [af, e, Option.some.injEq] at hr; subst hr; rw [if_pos hc, hz]; simp only [hc, if_true, af, e]
  ·have e : Nat.beq s t = false := by cases h : Nat.beq s t with | false => rfl | true => exact absurd (Nat.eq_of_beq_eq_true h) hs
   constructor
   ·intro y hy; split at hy
    ·split at hy
     ·split at hy
      ·simp only [af, e] at hy; exact i1 y hy
      ·exact i1 y hy
     ·exact i1 y hy
    ·exact i1 y hy
   ·intro z hz hc hr; simp only [af, e] at hr; have := i2 z hz hc hr; split
    ·split
     ·split
      ·simp only [af, e]; exact this
      ·exact this
     ·exact this
    ·exact this
theorem xQ {α : Type} (g : α -> α) (tch : α -> Bool) (d b : List (Nat × α)) (t : Nat) :
  af ((d.map fun e => (e.1, up1 g tch e.2)) ++ ovl g tch b b ++ b) t = (af (d ++ b) t).map (up1 g tch) := by
 rw [List.append_assoc, bm, bm, bm, oz]; cases af d t with
 | some x => rfl
 | none =>
  simp only [Option.map_none, Option.none_or]; obtain ⟨h1, h2⟩ := Ad g tch b t b; cases hb : af b t with
  | none =>
   cases ho : af (ovl g tch b b) t with
   | none => rfl
   | some y => obtain ⟨x, hx, _⟩ := h1 y ho; rw [hb] at hx; cases hx
  | some x =>
   by_cases hc : tch x = true
   ·rw [h2 x hb hc hb]; simp [up1, hc]
   ·cases ho : af (ovl g tch b b) t with
    | none => simp [up1, hc]
    | some y =>
     obtain ⟨x', hx, hc', _⟩ := h1 y ho; rw [hb] at hx; cases hx; exact absurd hc' hc
def X.tch0 (l : Nat) : X P G S -> Bool
 | .own m | .ref m _ | .el m _ _ | .mp m => Nat.beq m l
 | _ => false
def X.tch (l : Nat) : X P G S -> Bool
 | .agg cs | .tup cs | .fn _ cs | .mth _ cs => cs.any (X.tch0 l)
 | x => x.tch0 l
theorem nA {m l : Nat} (h : Nat.beq m l = false) : m ≠ l := by intro e; subst e; rw [Nat.beq_refl] at h; cases h
theorem uH {l : Nat} {x : X P G S} {len : Nat -> Nat} (h : x.tch0 l = false) : (x.cap len).free l = true := by
 cases x with
 | own m => simpa [X.cap, Cap.free] using nA h
 | ref m off => simpa [X.cap, Cap.free] using nA h
 | mp m => simpa [X.cap, Cap.free] using nA h
 | _ => rfl
theorem ny {l : Nat} {cs : List (X P G S)} {len : Nat -> Nat} (h : cs.any (X.tch0 l) = false) : (eX len cs).all (Cap.free l) = true := by
 rw [List.any_eq_false] at h; rw [List.all_eq_true]; intro c hc; obtain ⟨x, hx, rfl⟩ := List.mem_map.1 hc; exact uH (by simpa using h x hx)
theorem zj {l : Nat} {cs : List (X P G S)} {len : Nat -> Nat} (h : cs.any (X.tch0 l) = false) : (eY len cs).all (Cap.free l) = true := by
 rw [List.any_eq_false] at h; rw [List.all_eq_true]; intro c hc; obtain ⟨x, hx, hc⟩ := List.mem_flatMap.1 hc; split at hc
 ·obtain ⟨d, _, rfl⟩ := List.mem_map.1 hc; rfl
 ·rw [List.mem_singleton] at hc; subst hc; exact uH (by simpa using h x hx)
theorem xq {l : Nat} {x : X P G S} {len : Nat -> Nat} (h : x.tch l = false) : (x.VP len).free l = true := by
 unfold X.VP; split
 ·split
  ·exact zj h
  ·rfl
 ·split
  ·exact ny h
  ·rfl
 ·split
  ·show (true && _) = true; rw [ny h]; rfl
  ·rfl
 ·split
  ·show (_ && true) = true; rw [ny h]; rfl
  ·rfl
 ·rfl
theorem tw {l : Nat} {x : X P G S} (h : x.tch0 l = true) : x.isD = false := by
 cases x with
 | own | ref | el | mp => rfl
 | _ => cases h
theorem pX {l : Nat} {x : X P G S} (h : x.tch l = true) : x.isD = false := by
 have key : ∀ cs : List (X P G S), cs.any (X.tch0 l) = true -> X.allD cs = false := by
  intro cs h; obtain ⟨y, hy, h1⟩ := List.any_eq_true.1 h; have := tw h1; cases hd : X.allD cs with
  | false => rfl
  | true => rw [X.allD_iff.1 hd y hy] at this; cases this
 cases x with
 | own | ref | el | mp | mth => rfl
 | agg cs => exact key cs h
 | tup cs => exact key cs h
 | fn f cs => exact key cs h
 | _ => cases h
theorem nw {l : Nat} {x : X P G S} {len : Nat -> Nat} (h : x.tch l = false) : (x.V len).free l = true := by
 have e {m : Nat} (h : Nat.beq m l = false) : (m != l) = true := by simpa using nA h
 unfold X.V; split
 ·exact e h
 ·exact e h
 ·exact e h
 ·exact e h
 ·split
  ·have h : (Nat.beq _ l || _) = false := h; rw [Bool.or_eq_false_iff] at h; exact e h.1
  ·exact xq h
 ·split
  ·rfl
  ·exact xq h
theorem xr {l : Nat} {x : X P G S} {len len' : Nat -> Nat} (h : x.tch0 l = false) (hl : ∀ m, m ≠ l -> len' m = len m) : x.cap len' = x.cap len := by
 cases x with
 | own m => show Cap.s m (len' m) = Cap.s m (len m); rw [hl m (nA h)]
 | _ => rfl
theorem oX {l : Nat} {cs : List (X P G S)} {len len' : Nat -> Nat} (h : cs.any (X.tch0 l) = false) (hl : ∀ m, m ≠ l -> len' m = len m) : eX len' cs = eX len cs := by
 rw [List.any_eq_false] at h; exact List.map_congr_left fun x hx => xr (by simpa using h x hx) hl
theorem AW {l : Nat} {cs : List (X P G S)} {len len' : Nat -> Nat} (h : cs.any (X.tch0 l) = false) (hl : ∀ m, m ≠ l -> len' m = len m) : eY len' cs = eY len cs := by
 rw [List.any_eq_false] at h; unfold eY
 induction cs with
 | nil => rfl
 | cons x r ih =>
  rw [List.flatMap_cons, List.flatMap_cons, ih fun y hy => h y (by simp [hy]), xr (by simpa using h x (by simp)) hl]
theorem zi {l : Nat} {x : X P G S} {len len' : Nat -> Nat} (h : x.tch l = false) (hl : ∀ m, m ≠ l -> len' m = len m) : x.VP len' = x.VP len := by
 unfold X.VP; split
 ·rw [AW h hl]
 ·rw [oX h hl]
 ·rw [oX h hl]
 ·rw [oX h hl]
 ·rfl
theorem jI {l : Nat} {x : X P G S} {len len' : Nat -> Nat} (h : x.tch l = false) (hl : ∀ m, m ≠ l -> len' m = len m) : x.V len' = x.V len := by
 unfold X.V; split
 ·rw [hl _ (nA h)]
 ·rfl
 ·rfl
 ·rfl
 ·split
  ·have h : (Nat.beq _ l || _) = false := h; rw [Bool.or_eq_false_iff] at h; rw [hl _ (nA h.1)]
  ·exact zi h hl
 ·split
  ·rfl
  ·exact zi h hl
def jf (l : Nat) : B P G S -> Bool
 | .cells cs => cs.any (X.tch l)
 | _ => false
def B.map (g : X P G S -> X P G S) : B P G S -> B P G S
 | .cells cs => if flV cs then .cells (cs.map g) else .gone
 | b => b
def cY (l : Nat) (g : X P G S -> X P G S) (b d : DS P G S) : DS P G S :=
 ⟨(d.env.map fun e => (e.1, up1 g (X.tch l) e.2)) ++ ovl g (X.tch l) b.env b.env, (d.h.map fun e => (e.1, up1 (B.map (up1 g (X.tch l))) (jf l) e.2)) ++ ovl (B.map (up1 g (X.tch l))) (jf l) b.h b.h, d.nx⟩
theorem nN (l : Nat) (g : X P G S -> X P G S) (b d : DS P G S) (t : Nat) : af (cat b (cY l g b d)).env t = (af (cat b d).env t).map (up1 g (X.tch l)) := xQ ..
theorem vB (l : Nat) (g : X P G S -> X P G S) (b d : DS P G S) (m : Nat) : af (cat b (cY l g b d)).h m = (af (cat b d).h m).map (up1 (B.map (up1 g (X.tch l))) (jf l)) := xQ ..
theorem bN (s : DS P G S) (t : Nat) : look s.enc.env t = (af s.env t).map (X.V (am s.h)) := by
 rw [<- aL]; exact oz ..
theorem ca (s : DS P G S) (l : Nat) : look s.enc.h l = (af s.h l).bind fun b => if b.live then some (b.blk (am s.h)) else none := rZ ..
theorem Lr {g : X P G S -> X P G S} {k : V -> V} {len len' : Nat -> Nat} (hg : ∀ x : X P G S, x.fl = true -> (g x).w = x.w /\ CellsR ((x.Vs len).map k) ((g x).Vs len')) : ∀ {cs : List (X P G S)}, flV cs = true ->
  CellsR ((vsX len cs).map k) (vsX len' (cs.map g)) /\ X.ws (cs.map g) = X.ws cs := by
 intro cs
 induction cs with
 | nil => intro _; exact ⟨.nil, rfl⟩
 | cons x r ih =>
  intro hf; simp only [flV, Bool.and_eq_true] at hf; obtain ⟨a1, a2⟩ := hg x hf.1; obtain ⟨b1, b2⟩ := ih hf.2; constructor
  ·show CellsR ((x.Vs len ++ vsX len r).map k) ((g x).Vs len' ++ vsX len' (r.map g)); rw [List.map_append]; have : ∀ {a b c d : List V}, CellsR a b -> CellsR c d -> CellsR (a ++ c) (b ++ d) := by
    intro a b c d h1 h2
    induction h1 with
    | nil => exact h2
    | cons h _ ih => exact .cons h ih
   exact this a2 b1
  ·show (g x).w + X.ws (r.map g) = x.w + X.ws r; rw [a1, b2]
theorem zy (k : V -> V) (hk : ∀ d, k (.d d) = .d d) (sz : Nat) (rows : zRz) : cA k (dB sz rows) = dB sz rows := by
 unfold cA dB; simp only [List.map_map]
 congr 1
 apply List.map_congr_left; intro r _; simp only [Function.comp, List.map_map]; apply List.map_congr_left; intro x _; exact hk x
theorem wx {l : Nat} {g : X P G S -> X P G S} {k : V -> V} {len len' : Nat -> Nat} (hk : ∀ d, k (.d d) = .d d) (hkm : pH k) (hg : ∀ x : X P G S, x.fl = true -> (up1 g (X.tch l) x).w = x.w /\ CellsR ((x.Vs len).map k) ((up1 g (X.tch l) x).Vs len')) {b : B P G S}
  (hu : jf l b = false -> ∀ cs, b = .cells cs -> CellsR ((vsX len cs).map k) (vsX len' cs)) (hb : (up1 (B.map (up1 g (X.tch l))) (jf l) b).live = true) : b.live = true /\ fJ (cA k (b.blk len)) ((up1 (B.map (up1 g (X.tch l))) (jf l) b).blk len') := by
 cases b with
 | row t xs =>
  refine ⟨rfl, ?_⟩; show fJ (cA k (dB _ _)) (dB _ _); rw [zy k hk]; exact fJ.refl _
 | gone => simp [up1, jf, B.live] at hb
 | mp kt vt kvs =>
  refine ⟨rfl, ?_⟩; have e : cA k ((B.mp kt vt kvs : B P G S).blk len) = (B.mp kt vt kvs : B P G S).blk len := by
   show (⟨1, [[k (.mp _ _)]]⟩ : Blk) = _; rw [hkm.1]; rfl
  rw [e]; exact fJ.refl _
 | cells cs =>
  refine ⟨rfl, ?_⟩; by_cases ht : jf l (.cells cs) = true
  ·have e : up1 (B.map (up1 g (X.tch l))) (jf l) (.cells cs) = B.map (up1 g (X.tch l)) (.cells cs) := by unfold up1; rw [if_pos ht]
   rw [e] at hb ⊢; by_cases hf : flV cs = true
   ·obtain ⟨r1, r2⟩ := Lr hg hf; have e2 : B.map (up1 g (X.tch l)) (.cells cs) = .cells (cs.map (up1 g (X.tch l))) := by unfold B.map; simp only [hf, if_true]
    rw [e2]; exact ⟨r2.symm, .cons r1 .nil, by rw [lu hkm, iq, iq]; rfl⟩
   ·have e2 : B.map (up1 g (X.tch l)) (.cells cs) = .gone := by unfold B.map; simp only [if_neg hf]
    rw [e2] at hb; cases hb
  ·have e : up1 (B.map (up1 g (X.tch l))) (jf l) (.cells cs) = .cells cs := by unfold up1; rw [if_neg ht]
   rw [e]; exact ⟨rfl, .cons (hu (by simpa using ht) cs rfl) .nil, by rw [lu hkm, iq, iq]⟩
end
end
section
theorem zR {l sz : Nat} {rows : zRz} {x : V} (h : x.free l = true) : bf l sz rows x = x := by
 cases x with
 | d => rfl
 | ref m i off => simp only [V.free, bne_iff_ne, ne_eq] at h; simp [bf, h]
 | sref m lo n => simp only [V.free, bne_iff_ne, ne_eq] at h; simp [bf, h]
 | aref m i off es n cap => simp only [V.free, bne_iff_ne, ne_eq] at h; simp [bf, h]
 | mix tup m n rest => simp only [V.free, bne_iff_ne, ne_eq] at h; simp [bf, h]
 | any => rfl
 | gh m => rfl
 | mp => rfl
 | omap => rfl
 | clo => rfl
 | agr => rfl
section
variable {P : Program} {G : zGz} {S : Nm} {F : Fr}
def fzR (τ : Ty) (xs : List (Den P G S τ)) : X P G S -> X P G S
 | .own _ => .s (.lst τ) xs
 | .agg (.own _ :: r) => if flD r then .agg (.s (.lst τ) xs :: r) else .any
 | _ => .any
def fzC (cs : List (X P G S)) : X P G S -> X P G S
 | .ref _ off => (match gP cs off with
  | some r => .ptr r
  | none => .any)
 | _ => .any
theorem zT {cs r : List (X P G S)} {m off : Nat} (h : gP cs off = some r) : fzC cs (.ref m off) = .ptr r := by
 simp only [fzC, h]
theorem zS {cs : List (X P G S)} {m off : Nat} (h : gP cs off = none) : fzC cs (.ref m off) = .any := by
 simp only [fzC, h]
def ng (l : Nat) (b d : DS P G S) : Option (DS P G S) :=
 match af (cat b d).h l with
 | some (.row τ xs) => let d1 := cY l (fzR τ xs) b d; some ⟨d1.env, (l, .gone) :: d1.h, d1.nx⟩
 | some (.cells cs) => if flD cs then let d1 := cY l (fzC cs) b d; some ⟨d1.env, (l, .gone) :: d1.h, d1.nx⟩ else none
 | _ => none
theorem ua {l : Nat} {g : X P G S -> X P G S} {b d : DS P G S} {m : Nat} : am (cat b (cY l g b d)).h m = am (cat b d).h m := by
 unfold am; rw [vB]; cases h : af (cat b d).h m with
 | none => rfl
 | some k =>
  simp only [Option.map_some, Option.getD_some]; unfold up1; split
  ·cases k with
   | cells cs => show (if flV cs then B.cells (cs.map _) else B.gone).len = 0; split <;> rfl
   | _ => rfl
  ·rfl
theorem np {l m : Nat} (h : Nat.beq m l = true) : m = l := Nat.eq_of_beq_eq_true h
theorem vh {l : Nat} {g : X P G S -> X P G S} {b d : DS P G S} {bk : B P G S} {rows : zRz} (hl : af (cat b d).h l = some bk) (hb : bk.live = true) (hr : (bk.blk (am (cat b d).h)).rows = rows.map fun r => r.map V.d)
  (hV : ∀ x : X P G S, x.tch l = true -> V.le (bf l (bk.blk (am (cat b d).h)).sz rows (x.V (am (cat b d).h))) ((g x).V fun m => if m = l then 0 else am (cat b d).h m))
  (hc : ∀ x : X P G S, x.fl = true -> x.tch l = true -> (g x).w = x.w /\ ((g x).isD = true -> (g x).c.map V.d = [(g x).V fun m => if m = l then 0 else am (cat b d).h m])) :
  St.to F (cat b d).enc (cat b ⟨(cY l g b d).env, (l, .gone) :: (cY l g b d).h, (cY l g b d).nx⟩).enc := by
 have hk : look (cat b d).enc.h l = some (bk.blk (am (cat b d).h)) := by rw [<- aL]; exact rY hl hb
 refine aR (fD rows hk hr) ?_; have hlen : ∀ m, am (cat b ⟨(cY l g b d).env, (l, .gone) :: (cY l g b d).h, (cY l g b d).nx⟩).h m = if m = l then 0 else am (cat b d).h m := by
  intro m; by_cases e : m = l
  ·subst e; rw [if_pos rfl]; show am ((m, B.gone) :: ((cY m g b d).h ++ b.h)) m = 0; unfold am; simp only [af, Nat.beq_refl]; rfl
  ·rw [if_neg e, <- ua (l := l) (g := g) (b := b) (d := d) (m := m)]; have e' : Nat.beq l m = false := by cases h : Nat.beq l m with | false => rfl | true => exact absurd (np h).symm e
   show am ((l, B.gone) :: ((cY l g b d).h ++ b.h)) m = am ((cY l g b d).h ++ b.h) m; unfold am; simp only [af, e']
 have hfun : am (cat b ⟨(cY l g b d).env, (l, .gone) :: (cY l g b d).h, (cY l g b d).nx⟩).h = fun m => if m = l then 0 else am (cat b d).h m := funext hlen
 refine jH ?_ ?_ (Nat.le_refl _)
 ·intro t y hy; rw [bN, hfun] at hy; have he : af (cat b ⟨(cY l g b d).env, (l, .gone) :: (cY l g b d).h, (cY l g b d).nx⟩).env t = (af (cat b d).env t).map (up1 g (X.tch l)) := nN ..; rw [he] at hy; cases hx : af (cat b d).env t with
  | none => rw [hx] at hy; cases hy
  | some x =>
   rw [hx] at hy; simp only [Option.map_some, Option.some.injEq] at hy; subst hy; refine ⟨bf l (bk.blk (am (cat b d).h)).sz rows (x.V (am (cat b d).h)), by rw [ju, bN, hx]; rfl, ?_⟩; unfold up1; split
   ·rename_i ht; exact hV x ht
   ·rename_i ht; have ht : x.tch l = false := by simpa using ht
    rw [zR (nw ht), jI (len := am (cat b d).h) ht fun m hm => if_neg hm]; exact V.le.refl _
 ·intro m k' hk'; rw [ca, hfun] at hk'; have hm : m ≠ l := by
   intro e; subst e; have : af (cat b ⟨(cY m g b d).env, (m, .gone) :: (cY m g b d).h, (cY m g b d).nx⟩).h m = some .gone := by
    show af ((m, B.gone) :: _) m = _; simp only [af, Nat.beq_refl]
   rw [this] at hk'; cases hk'
  have he : af (cat b ⟨(cY l g b d).env, (l, .gone) :: (cY l g b d).h, (cY l g b d).nx⟩).h m = (af (cat b d).h m).map (up1 (B.map (up1 g (X.tch l))) (jf l)) := by
   have e' : Nat.beq l m = false := by cases h : Nat.beq l m with | false => rfl | true => exact absurd (np h).symm hm
   rw [<- vB]; show af ((l, B.gone) :: ((cY l g b d).h ++ b.h)) m = _; simp only [af, e']; rfl
  rw [he] at hk'; cases hx : af (cat b d).h m with
  | none => rw [hx] at hk'; cases hk'
  | some k =>
   rw [hx] at hk'; simp only [Option.map_some, Option.bind_some] at hk'; split at hk'
   ·rename_i hlive; cases hk'; have hcell : ∀ x : X P G S, x.tch l = false -> CellsR ((x.Vs (am (cat b d).h)).map (bf l (bk.blk (am (cat b d).h)).sz rows)) (x.Vs fun m => if m = l then 0 else am (cat b d).h m) := by
     intro x ht; unfold X.Vs; split
     ·rw [List.map_map]; have : (bf l (bk.blk (am (cat b d).h)).sz rows ∘ V.d) = V.d := rfl; rw [this]; exact CellsR.refl _
     ·rw [jI (len := am (cat b d).h) ht fun m hm => if_neg hm]; simp only [List.map_cons, List.map_nil, zR (nw ht)]; exact CellsR.refl _
    obtain ⟨r1, r2⟩ := wx (l := l) (g := g) (k := bf l (bk.blk (am (cat b d).h)).sz rows) (len := am (cat b d).h) (len' := fun m => if m = l then 0 else am (cat b d).h m) (fun _ => rfl) (vC _ _ _) (fun x hf => by
     unfold up1; split
     ·rename_i ht; obtain ⟨c1, c2⟩ := hc x hf ht; refine ⟨c1, ?_⟩; have hnd : x.isD = false := pX ht; have e : x.Vs (am (cat b d).h) = [x.V (am (cat b d).h)] := by unfold X.Vs; rw [hnd]; rfl
      rw [e]; have e2 : (g x).Vs (fun m => if m = l then 0 else am (cat b d).h m) = [(g x).V fun m => if m = l then 0 else am (cat b d).h m] := by
       unfold X.Vs; split
       ·rename_i hd; exact c2 hd
       ·rfl
      rw [e2]; exact .cons (hV x ht) .nil
     ·rename_i ht; exact ⟨rfl, hcell x (by simpa using ht)⟩) (b := k) (fun ht cs e => by
      subst e; have ht' : ∀ x ∈ cs, x.tch l = false := by
       have : cs.any (X.tch l) = false := ht; rw [List.any_eq_false] at this; intro x hx; simpa using this x hx
      clear hx hlive he ht
      induction cs with
      | nil => exact .nil
      | cons x r ih =>
       show CellsR ((x.Vs _ ++ vsX _ r).map _) (x.Vs _ ++ vsX _ r); rw [List.map_append]; have app : ∀ {a b c d : List V}, CellsR a b -> CellsR c d -> CellsR (a ++ c) (b ++ d) := by
        intro a b c d h1 h2
        induction h1 with
        | nil => exact h2
        | cons h _ ih => exact .cons h ih
       exact app (hcell x (ht' x (by simp))) (ih fun y hy => ht' y (by simp [hy]))) hlive
    refine ⟨_, ?_, r2⟩; have : look (cat b d).enc.h m = some (k.blk (am (cat b d).h)) := by rw [ca, hx]; simp [r1]
    unfold hO; rw [cT, dM, if_neg hm, this]; rfl
   ·cases hk'
theorem Dj {l : Nat} {b d d' : DS P G S} (h : ng l b d = some d') : St.to F (cat b d).enc (cat b d').enc := by
 unfold ng at h; split at h
 ·rename_i τ xs hl; cases h; have hlen : am (cat b d).h l = xs.length := ub hl; refine vh (rows := xs.map (τ.bd P G S).cells) hl rfl rfl ?_ ?_
  ·intro x ht; show V.le (bf l (τ.bd P G S).w (xs.map (τ.bd P G S).cells) _) _; cases x with
   | own m =>
    obtain rfl := np ht; show V.le (bf m _ _ (.sref m 0 (am (cat b d).h m))) (.d (.list (τ.bd P G S).w (xs.map (τ.bd P G S).cells) false)); rw [hlen]; have : bf m (τ.bd P G S).w (xs.map (τ.bd P G S).cells) (.sref m 0 xs.length) = .d (.list (τ.bd P G S).w (xs.map (τ.bd P G S).cells) false) := by simp [bf]
    rw [this]; exact V.le.refl _
   | ref m off => exact V.le.any _
   | el m i off => exact V.le.any _
   | agg cs =>
    cases cs with
    | nil => cases ht
    | cons y r =>
     cases y with
     | own m =>
      by_cases hf : flD r = true
      ·have hm : m = l := by
        have ht : (Nat.beq m l || r.any (X.tch0 l)) = true := ht; rw [Bool.or_eq_true] at ht; rcases ht with h | h
        ·exact np h
        ·obtain ⟨y, hy, h1⟩ := List.any_eq_true.1 h; have := tw h1; rw [X.allD_iff.1 (cd hf).1 y hy] at this; cases this
       subst hm; have e : fzR τ xs (.agg (.own m :: r)) = .agg (.s (.lst τ) xs :: r) := if_pos hf; rw [e]; have hd := (cd hf).1; have e1 : X.V (am (cat b d).h) (.agg (.own m :: r)) = .mix false m (am (cat b d).h m) (X.cs r) := if_pos hd; rw [e1, hlen]; have e2 : bf m (τ.bd P G S).w (xs.map (τ.bd P G S).cells) (.mix false m xs.length (X.cs r)) = .d (.agg ((X.cs r).length + 1) (.list (τ.bd P G S).w (xs.map (τ.bd P G S).cells) false :: X.cs r)) := by simp [bf]
       rw [e2, (cd hf).2]; have e3 : X.V (fun m_1 => if m_1 = m then 0 else am (cat b d).h m_1) (.agg (.s (.lst τ) xs :: r)) = .d (.agg (X.ws (.s (.lst τ) xs :: r)) (X.cs (.s (.lst τ) xs :: r))) := ci (x := .agg (.s (.lst τ) xs :: r)) (by show (true && X.allD r) = true; rw [hd]; rfl); rw [e3]; show V.le (.d (.agg (X.ws r + 1) _)) (.d (.agg (1 + X.ws r) (.list _ _ false :: X.cs r))); rw [Nat.add_comm]; exact V.le.refl _
      ·have e : fzR τ xs (.agg (.own m :: r)) = .any := if_neg hf; rw [e]; exact V.le.any _
     | _ => exact V.le.any _
   | fn => exact V.le.any _
   | mth => exact V.le.any _
   | tup => exact V.le.any _
   | mp => exact V.le.any _
   | _ => cases ht
  ·intro x hf ht; cases x with
   | own m => exact ⟨rfl, fun _ => rfl⟩
   | ref m off => exact ⟨rfl, fun h => by cases h⟩
   | el m i off => exact ⟨rfl, fun h => by cases h⟩
   | fn => exact ⟨rfl, fun h => by cases h⟩
   | mth => exact ⟨rfl, fun h => by cases h⟩
   | mp => exact ⟨rfl, fun h => by cases h⟩
   | agg cs => cases hf
   | tup cs => cases hf
   | _ => cases ht
 ·rename_i cs hl; split at h
  ·rename_i hfd; cases h; obtain ⟨hd, hw⟩ := cd hfd; refine vh (rows := [X.cs cs]) hl rfl (by show [vsX _ cs] = _; rw [fg hd]; rfl) ?_ ?_
   ·intro x ht; show V.le (bf l (X.ws cs) [X.cs cs] _) _; cases x with
    | ref m off =>
     obtain rfl := np ht; cases hq : gP cs off with
     | none =>
      have e : fzC cs (.ref m off) = .any := zS hq; rw [e]; exact V.le.any _
     | some r =>
      have e : fzC cs (.ref m off) = .ptr r := zT hq; rw [e]; obtain ⟨g1, g2, pre, rfl⟩ := kz hq fun _ => 0
      have hws := tU hq; have hfq : flD r = true := by rw [jL, Bool.and_eq_true] at hfd; exact hfd.2
      obtain ⟨hdq, _⟩ := cd hfq; rw [fg hd, fg hdq, <- List.map_drop] at g1; rw [ci (x := .ptr r) hdq]; show V.le (bf m (X.ws (pre ++ r)) [X.cs (pre ++ r)] (.ref m 0 off)) (.d (.ptr (X.ws r) (X.cs r))); have : bf m (X.ws (pre ++ r)) [X.cs (pre ++ r)] (.ref m 0 off) = .d (.ptr (X.ws r) (X.cs r)) := by
       have h1 : off <= X.ws (pre ++ r) := by omega
       have h2 : X.ws (pre ++ r) - off = X.ws r := by omega
       simp only [bf, if_true, List.getElem?_cons_zero, h1, h2, oH g1]
      rw [this]; exact V.le.refl _
    | own m => exact V.le.any _
    | el m i off => exact V.le.any _
    | agg cs =>
     cases cs with
     | nil => cases ht
     | cons y r => exact V.le.any _
    | fn => exact V.le.any _
    | mth => exact V.le.any _
    | tup => exact V.le.any _
    | mp => exact V.le.any _
    | _ => cases ht
   ·intro x hf ht; cases x with
    | ref m off =>
     cases hq : gP cs off with
     | none => rw [zS hq]; exact ⟨rfl, fun h => by cases h⟩
     | some r => rw [zT hq]; exact ⟨rfl, fun h => by rw [ci h]; rfl⟩
    | own m => exact ⟨rfl, fun h => by cases h⟩
    | el m i off => exact ⟨rfl, fun h => by cases h⟩
    | fn => exact ⟨rfl, fun h => by cases h⟩
    | mth => exact ⟨rfl, fun h => by cases h⟩
    | mp => exact ⟨rfl, fun h => by cases h⟩
    | agg cs => cases hf
    | tup cs => cases hf
    | _ => cases ht
  ·cases h
 ·cases h
end
end
section
section
variable {P : Program} {G : zGz} {S : Nm} {R : Type}
def oc : (ts : List Ty) -> Den P G S (Ty.tup ts) -> List D
 | [], _ => []
 | [t], x => [(t.bd P G S).one x]
 | t :: u :: ts, x => (t.bd P G S).one x.1 :: oc (u :: ts) x.2
def jJ : List Bool -> (ts : List Ty) -> Den P G S (Ty.tup ts) -> List D
 | [], ts, x => oc ts x
 | true :: m, ts, x => .list 0 [] true :: jJ m ts x
 | false :: m, [t], x => (t.bd P G S).one x :: jJ m [] ()
 | false :: m, t :: u :: ts, x => (t.bd P G S).one x.1 :: jJ m (u :: ts) x.2
 | false :: _, [], _ => []
structure Con (P : Program) (G : zGz) (S : Nm) where
 n : Nat
 m : List Bool
 A : List Ty
 B : Ty
 φ : Den P G S (Ty.tup A) -> Option (Den P G S B)
 own : Bool
structure Con.Ok (c : Con P G S) : Prop where
 d : c.own = false -> ∀ a r, c.φ a = some r -> aj P G c.n (jJ c.m c.A a) ((c.B.bd P G S).one r)
 o : c.own = true -> ∀ (τ : Ty) (xs : List (Den P G S τ)) a r, c.φ a = some r -> jK c.B (.lst τ) r = some xs -> cc P G c.n (jJ c.m c.A a) .one (τ.bd P G S).w (xs.map (τ.bd P G S).cells) []
structure Lc (P : Program) (G : zGz) (S : Nm) where
 n : Nat
 τ : Ty
 A : List Ty
 φ : List (Den P G S τ) -> Den P G S (Ty.tup A) -> Option (List (Den P G S τ))
def Lc.Ok (c : Lc P G S) : Prop := ∀ xs a ys, c.φ xs a = some ys -> fH P G c.n [(0, dB (c.τ.bd P G S).w (xs.map (c.τ.bd P G S).cells))] 1 (.sref 0 0 xs.length :: (oc c.A a).map V.d) (.sref 1 0 ys.length) [(1, dB (c.τ.bd P G S).w (ys.map (c.τ.bd P G S).cells))] 2
def ve (n : Nat) : List (Lc P G S) -> Option (Lc P G S)
 | [] => none
 | c :: r => if Nat.beq c.n n then some c else ve n r
theorem GN {n : Nat} : ∀ {cs : List (Lc P G S)} {c : Lc P G S}, (∀ c ∈ cs, c.Ok) -> ve n cs = some c -> c.Ok /\ c.n = n := by
 intro cs
 induction cs with
 | nil => intro c _ h; cases h
 | cons x r ih =>
  intro c hc h; unfold ve at h; split at h
  ·rename_i e; cases h; exact ⟨hc _ (by simp), Nat.eq_of_beq_eq_true e⟩
  ·exact ih (fun y hy => hc y (by simp [hy])) h
def yU (n : Nat) : List (Con P G S) -> Option (Con P G S)
 | [] => none
 | c :: r => if Nat.beq c.n n then some c else yU n r
theorem GL {n : Nat} : ∀ {cs : List (Con P G S)} {c : Con P G S}, (∀ c ∈ cs, c.Ok) -> yU n cs = some c -> c.Ok /\ c.n = n := by
 intro cs
 induction cs with
 | nil => intro c _ h; cases h
 | cons x r ih =>
  intro c hc h; unfold yU at h; split at h
  ·rename_i e; cases h; exact ⟨hc _ (by simp), np e⟩
  ·exact ih (fun y hy => hc y (by simp [hy])) h
def dO (M : SX P G S) : (t : Ty) -> Den P G S t -> X P G S × List (X P G S)
 | .nm i, x => (.agg (M.expl 8 (.nm i) x), [.agg (M.expl 8 (.nm i) x)])
 | .vec n, x => (.agg [.s (.vec n) x], [.agg [.s (.vec n) x]])
 | .unit, _ => (.tup [], [])
 | .pair a b, x => (.tup ((dO M a x.1).1 :: (dO M b x.2).2), (dO M a x.1).1 :: (dO M b x.2).2)
 | t, x => (.s t x, [.s t x])
def ig (M : SX P G S) : (t : Ty) -> Den P G S t -> Bool
 | .nm i, x => X.ws (M.expl 8 (.nm i) x) == S.w i
 | .pair a b, x => ig M a x.1 && ig M b x.2
 | _, _ => true
theorem kK {M : SX P G S} (hM : M.Ok) : ∀ (t : Ty) (x : Den P G S t), ig M t x = true -> (dO M t x).1.isD = true /\ (dO M t x).1.d = (t.bd P G S).one x /\ X.allD (dO M t x).2 = true /\ X.ds (dO M t x).2 = (t.bd P G S).args x := by
 intro t
 induction t with
 | nm i =>
  intro x h; have hw : X.ws (M.expl 8 (.nm i) x) = S.w i := by simpa [ig] using h
  obtain ⟨h1, h2⟩ := hM.expl 8 (.nm i) x; have e : D.agg (X.ws (M.expl 8 (.nm i) x)) (X.cs (M.expl 8 (.nm i) x)) = .agg (S.w i) (S.row i x) := by rw [hw, h1]; rfl
  exact ⟨h2, e, by show (X.allD _ && true) = true; rw [h2]; rfl, by show [D.agg (X.ws _) (X.cs _)] = [D.agg (S.w i) (S.row i x)]; rw [e]⟩
 | vec n =>
  intro x _; have e : D.agg (n + 0) (ay x.l ++ []) = .agg n (ay x.l) := by simp
  exact ⟨rfl, e, rfl, by show [D.agg (n + 0) (ay x.l ++ [])] = [D.agg n (ay x.l)]; rw [e]⟩
 | unit => intro x _; exact ⟨rfl, rfl, rfl, rfl⟩
 | pair a b iha ihb =>
  intro x h; have h' : (ig M a x.1 && ig M b x.2) = true := h; rw [Bool.and_eq_true] at h'; obtain ⟨a1, a2, _, _⟩ := iha x.1 h'.1; obtain ⟨_, _, b3, b4⟩ := ihb x.2 h'.2; have e1 : X.allD ((dO M a x.1).1 :: (dO M b x.2).2) = true := by show ((dO M a x.1).1.isD && X.allD _) = true; rw [a1, b3]; rfl
  have e2 : X.ds ((dO M a x.1).1 :: (dO M b x.2).2) = (a.bd P G S).one x.1 :: (b.bd P G S).args x.2 := by
   show (dO M a x.1).1.d :: X.ds _ = _; rw [a2, b4]
  exact ⟨e1, by show D.tup (X.ds _) = D.tup _; rw [e2], e1, e2⟩
 | _ => intro x _; exact ⟨rfl, rfl, rfl, rfl⟩
def eO (M : SX P G S) : (ts : List Ty) -> List (X P G S) -> (Den P G S (Ty.tup ts) -> Option R) -> Option R
 | [], [], K => K ()
 | [t], [x], K => M.decV false t x K
 | t :: u :: ts, x :: xs, K => M.decV false t x fun v => eO M (u :: ts) xs fun vs => K (v, vs)
 | _, _, _ => none
theorem qe {M : SX P G S} (hM : M.Ok) : ∀ (ts : List Ty) (xs : List (X P G S)) (K : Den P G S (Ty.tup ts) -> Option R) (r : R), eO M ts xs K = some r -> ∃ v, K v = some r /\ X.allD xs = true /\ ∀ C vs, Rp C (.outs (X.ds xs) vs) -> Rp C (.outs (oc ts v) vs)
 | [], [], K, r, h => ⟨(), h, rfl, fun _ _ h => h⟩
 | [t], [x], K, r, h => by
  obtain ⟨v, h1, h2⟩ := hM.decV (K := K) h; exact ⟨v, h1, by show (x.isD && true) = true; rw [h2.d]; rfl, fun C => fV h2.o (xS (C := C) [])⟩
 | t :: u :: ts, x :: xs, K, r, h => by
  obtain ⟨v, h1, h2⟩ := hM.decV (K := fun v => eO M (u :: ts) xs fun vs => K (v, vs)) h; obtain ⟨vs, h3, h4, h5⟩ := qe hM (u :: ts) xs (fun vs => K (v, vs)) r h1; exact ⟨(v, vs), h3, by show (x.isD && X.allD xs) = true; rw [h2.d, h4]; rfl, fun C => fV h2.o (h5 C)⟩
 | [], _ :: _, _, _, h => by simp [eO] at h
 | [_], [], _, _, h => by simp [eO] at h
 | [_], _ :: _ :: _, _, _, h => by simp [eO] at h
 | _ :: _ :: _, [], _, _, h => by simp [eO] at h
def ky (M : SX P G S) : List Bool -> (ts : List Ty) -> List (X P G S) -> (Den P G S (Ty.tup ts) -> Option R) -> Option R
 | [], ts, xs, K => eO M ts xs K
 | true :: m, ts, .nil :: xs, K => ky M m ts xs K
 | false :: m, [t], x :: xs, K => M.decV false t x fun v => ky M m [] xs fun _ => K v
 | false :: m, t :: u :: ts, x :: xs, K => M.decV false t x fun v => ky M m (u :: ts) xs fun vs => K (v, vs)
 | _, _, _, _ => none
theorem mg {M : SX P G S} (hM : M.Ok) : ∀ (m : List Bool) (ts : List Ty) (xs : List (X P G S)) (K : Den P G S (Ty.tup ts) -> Option R) (r : R), ky M m ts xs K = some r -> ∃ v, K v = some r /\ X.allD xs = true /\ ∀ C vs, Rp C (.outs (X.ds xs) vs) -> Rp C (.outs (jJ m ts v) vs)
 | [], ts, xs, K, r, h => qe hM ts xs K r h
 | true :: m, ts, .nil :: xs, K, r, h => by
  obtain ⟨v, h1, h2, h3⟩ := mg hM m ts xs K r h; exact ⟨v, h1, by show (true && X.allD xs) = true; rw [h2]; rfl, fun C => fV (D.le.refl _) (h3 C)⟩
 | false :: m, [t], x :: xs, K, r, h => by
  obtain ⟨v, h1, h2⟩ := hM.decV (K := fun v => ky M m [] xs fun _ => K v) h; obtain ⟨_, h3, h4, h5⟩ := mg hM m [] xs (fun _ => K v) r h1; exact ⟨v, h3, by show (x.isD && X.allD xs) = true; rw [h2.d, h4]; rfl, fun C => fV h2.o (h5 C)⟩
 | false :: m, t :: u :: ts, x :: xs, K, r, h => by
  obtain ⟨v, h1, h2⟩ := hM.decV (K := fun v => ky M m (u :: ts) xs fun vs => K (v, vs)) h; obtain ⟨vs, h3, h4, h5⟩ := mg hM m (u :: ts) xs (fun vs => K (v, vs)) r h1; exact ⟨(v, vs), h3, by show (x.isD && X.allD xs) = true; rw [h2.d, h4]; rfl, fun C => fV h2.o (h5 C)⟩
def jB : (ts : List Ty) -> Den P G S (Ty.tup ts) -> List ((t : Ty) × Den P G S t)
 | [], _ => []
 | [t], x => [⟨t, x⟩]
 | t :: u :: ts, x => ⟨t, x.1⟩ :: jB (u :: ts) x.2
inductive DecsV : List (X P G S) -> List ((t : Ty) × Den P G S t) -> Prop
 | nil : DecsV [] []
 | cons {x : X P G S} {t : Ty} {v : Den P G S t} {xs : List (X P G S)} {vs : List ((t : Ty) × Den P G S t)} : DecV false t x v -> DecsV xs vs -> DecsV (x :: xs) (⟨t, v⟩ :: vs)
theorem tA {M : SX P G S} (hM : M.Ok) : ∀ (ts : List Ty) (xs : List (X P G S)) (K : Den P G S (Ty.tup ts) -> Option R) (r : R), eO M ts xs K = some r -> ∃ v, K v = some r /\ DecsV xs (jB ts v)
 | [], [], K, r, h => ⟨(), h, .nil⟩
 | [t], [x], K, r, h => by
  obtain ⟨v, h1, h2⟩ := hM.decV (K := K) h; exact ⟨v, h1, .cons h2 .nil⟩
 | t :: u :: ts, x :: xs, K, r, h => by
  obtain ⟨v, h1, h2⟩ := hM.decV (K := fun v => eO M (u :: ts) xs fun vs => K (v, vs)) h; obtain ⟨vs, h3, h4⟩ := tA hM (u :: ts) xs (fun vs => K (v, vs)) r h1; exact ⟨(v, vs), h3, .cons h2 h4⟩
 | [], _ :: _, _, _, h => by simp [eO] at h
 | [_], [], _, _, h => by simp [eO] at h
 | [_], _ :: _ :: _, _, _, h => by simp [eO] at h
 | _ :: _ :: _, [], _, _, h => by simp [eO] at h
theorem DecsV.drop {xs : List (X P G S)} {vs : List ((t : Ty) × Den P G S t)} (h : DecsV xs vs) : ∀ n, DecsV (xs.drop n) (vs.drop n) := by
 induction h with
 | nil => intro n; simpa using DecsV.nil
 | cons h1 h2 ih =>
  intro n; cases n with
  | zero => exact .cons h1 h2
  | succ n => simpa using ih n
theorem xF (a b : List (X P G S)) : X.ds (a ++ b) = X.ds a ++ X.ds b := by simp only [BK, List.map_append]
def sM (M : SX P G S) (cs : List (Con P G S)) (f : Nat) (xs : List (X P G S)) (K : X P G S -> Option R) (KO : (τ : Ty) -> List (Den P G S τ) -> Option R) : Option R :=
 match yU f cs with
 | some c => if cD P f then ky M c.m c.A xs fun a => ob (c.φ a) fun r =>
  match c.own with
  | false => if ig M c.B r then K (dO M c.B r).1 else none
  | true => (match c.B, r with
   | .lst τ, r => KO τ r
   | _, _ => none) else none
 | none => none
theorem qc {M : SX P G S} (hM : M.Ok) {cs : List (Con P G S)} (hcs : ∀ c ∈ cs, c.Ok) {f : Nat} {xs : List (X P G S)} {K : X P G S -> Option R} {KO : (τ : Ty) -> List (Den P G S τ) -> Option R} {r : R} (h : sM M cs f xs K KO = some r) :
  cD P f = true /\ X.allD xs = true /\ ((∃ z, z.isD = true /\ K z = some r /\ aj P G f (X.ds xs) z.d) \/ ∃ τ ys, KO τ ys = some r /\ cc P G f (X.ds xs) .one (τ.bd P G S).w (ys.map (τ.bd P G S).cells) []) := by
 unfold sM at h; split at h
 ·rename_i c hc; obtain ⟨hok, rfl⟩ := GL hcs hc; split at h
  ·rename_i hb; obtain ⟨a, h1, h2, h3⟩ := mg hM _ _ _ _ _ h; obtain ⟨y, hy, h4⟩ := ap h1; refine ⟨hb, h2, ?_⟩; cases ho : c.own with
   | false =>
    rw [ho] at h4; dsimp only at h4; split at h4
    ·rename_i hs; obtain ⟨s1, s2, _, _⟩ := kK hM c.B y hs; exact .inl ⟨_, s1, h4, by rw [s2]; exact aj.args (hok.d ho a y hy) h3⟩
    ·cases h4
   | true =>
    rw [ho] at h4; dsimp only at h4; have key : ∀ (B : Ty) (y : Den P G S B), (match B, y with | .lst τ, r => KO τ r | _, _ => none) = some r -> ∃ τ ys, KO τ ys = some r /\ jK B (.lst τ) y = some ys := by
     intro B y h; split at h
     ·rename_i τ y; exact ⟨τ, y, h, dif_pos rfl⟩
     ·cases h
    obtain ⟨τ, ys, g1, g2⟩ := key _ _ h4; exact .inr ⟨τ, ys, g1, cc.args (hok.o ho τ ys a y hy g2) h3⟩
  ·cases h
 ·cases h
end
end
section
section
variable {P : Program} {G : zGz} {S : Nm} {F : Fr} {N : Nat} {ops l : zOz} {Q : zQz} {st st' : St}
theorem kM (hto : St.to F st st') (hs : St.small N st -> St.small N st') (k : SmG F N ops l Q st') : SmG F N ops l Q st := fun h => SmL.to hto (k (hs h))
theorem lI (h : ∀ t y, look st'.env t = some y -> (look st.env t).isSome = true \/ t < N) : St.small N st -> St.small N st' := fun hs t y hy => by
 rcases h t y hy with h | h
 ·obtain ⟨x, hx⟩ := Option.isSome_iff_exists.1 h; exact hs t x hx
 ·exact h
def lr (n : Nat) (s : DS P G S) : Bool := (s.env.all fun e => !e.2.tch n) && (s.h.all fun e => !(Nat.beq e.1 n) && !(jf n e.2))
theorem js {α : Type} : ∀ {r : List (Nat × α)} {t : Nat} {x : α}, af r t = some x -> (t, x) ∈ r := by
 intro r
 induction r with
 | nil => intro t x h; cases h
 | cons e r ih =>
  obtain ⟨k, y⟩ := e; intro t x h; simp only [af] at h; cases hb : Nat.beq k t with
  | true => rw [hb] at h; cases h; rw [Nat.eq_of_beq_eq_true hb]; simp
  | false => rw [hb] at h; exact List.mem_cons_of_mem _ (ih h)
theorem xM {n : Nat} {s : DS P G S} (h : lr n s = true) : (∀ t x, af s.env t = some x -> x.tch n = false) /\ (∀ l k, af s.h l = some k -> l ≠ n /\ jf n k = false) := by
 simp only [lr, Bool.and_eq_true, List.all_eq_true, Bool.not_eq_true'] at h; refine ⟨fun t x hx => h.1 _ (js hx), fun l k hk => ⟨fun e => ?_, (h.2 _ (js hk)).2⟩⟩; have := (h.2 _ (js hk)).1; subst e; simp at this
theorem Cw {n : Nat} {cs : List (X P G S)} {len len' : Nat -> Nat} (h : cs.any (X.tch n) = false) (hl : ∀ m, m ≠ n -> len' m = len m) : vsX len' cs = vsX len cs := by
 induction cs with
 | nil => rfl
 | cons x r ih =>
  simp only [List.any_cons, Bool.or_eq_false_iff] at h; show x.Vs len' ++ vsX len' r = x.Vs len ++ vsX len r; rw [ih h.2]
  congr 1
  unfold X.Vs; split
  ·rfl
  ·rw [jI (len := len) h.1 hl]
theorem ww {n : Nat} {k : B P G S} {len len' : Nat -> Nat} (h : jf n k = false) (hl : ∀ m, m ≠ n -> len' m = len m) : k.blk len' = k.blk len := by
 cases k with
 | row t xs => rfl
 | gone => rfl
 | mp => rfl
 | cells cs => show (⟨X.ws cs, [vsX len' cs]⟩ : Blk) = ⟨X.ws cs, [vsX len cs]⟩; rw [Cw h hl]
theorem nK {n : Nat} {k : B P G S} {h : List (Nat × B P G S)} : am ((n, k) :: h) = fun m => if m = n then k.len else am h m := by
 funext m
 unfold am; simp only [af]; by_cases e : m = n
 ·subst e; rw [Nat.beq_refl, if_pos rfl]; rfl
 ·have : Nat.beq n m = false := by cases h : Nat.beq n m with | false => rfl | true => exact absurd (Nat.eq_of_beq_eq_true h).symm e
  rw [this, if_neg e]
theorem Ai {b d : DS P G S} {t n : Nat} {x : X P G S} {k : B P G S} {v : V} {kb : Blk} (hf : lr n (cat b d) = true) (hk : k.live = true)
  (hv : v = x.V fun m => if m = n then k.len else am (cat b d).h m) (hkb : kb = k.blk fun m => if m = n then k.len else am (cat b d).h m) :
  St.to F ⟨(t, v) :: (cat b d).enc.env, (n, kb) :: (cat b d).enc.h, n + 1⟩ (cat b ⟨(t, x) :: d.env, (n, k) :: d.h, n + 1⟩).enc := by
 obtain ⟨f1, f2⟩ := xM hf; have hl : am (cat b ⟨(t, x) :: d.env, (n, k) :: d.h, n + 1⟩).h = fun m => if m = n then k.len else am (cat b d).h m := nK
 refine jH ?_ ?_ (Nat.le_refl _)
 ·intro s y hy; rw [bN, hl] at hy; have e : af (cat b ⟨(t, x) :: d.env, (n, k) :: d.h, n + 1⟩).env s = if t = s then some x else af (cat b d).env s := by
   show af ((t, x) :: (d.env ++ b.env)) s = _; simp only [af]; by_cases e : t = s
   ·subst e; rw [Nat.beq_refl, if_pos rfl]
   ·have : Nat.beq t s = false := by cases h : Nat.beq t s with | false => rfl | true => exact absurd (Nat.eq_of_beq_eq_true h) e
    rw [this, if_neg e]; rfl
  rw [e] at hy; by_cases hts : t = s
  ·rw [if_pos hts] at hy; cases hy; exact ⟨v, by simp only [look, if_pos hts], by rw [hv]; exact V.le.refl _⟩
  ·rw [if_neg hts] at hy; simp only [Option.map_eq_some_iff] at hy; obtain ⟨z, hz, rfl⟩ := hy; refine ⟨z.V (am (cat b d).h), by simp only [look, if_neg hts]; rw [bN, hz]; rfl, ?_⟩; rw [jI (len := am (cat b d).h) (f1 _ _ hz) fun m hm => if_neg hm]; exact V.le.refl _
 ·intro m k' hk'; rw [ca, hl] at hk'; have e : af (cat b ⟨(t, x) :: d.env, (n, k) :: d.h, n + 1⟩).h m = if n = m then some k else af (cat b d).h m := by
   show af ((n, k) :: (d.h ++ b.h)) m = _; simp only [af]; by_cases e : n = m
   ·subst e; rw [Nat.beq_refl, if_pos rfl]
   ·have : Nat.beq n m = false := by cases h : Nat.beq n m with | false => rfl | true => exact absurd (Nat.eq_of_beq_eq_true h) e
    rw [this, if_neg e]; rfl
  rw [e] at hk'; by_cases hnm : n = m
  ·rw [if_pos hnm] at hk'; simp only [Option.bind_some, hk, if_true, Option.some.injEq] at hk'; subst hk'; exact ⟨kb, by simp only [look, if_pos hnm], by rw [hkb]; exact fJ.refl _⟩
  ·rw [if_neg hnm] at hk'; simp only [Option.bind_eq_some_iff] at hk'; obtain ⟨z, hz, hk'⟩ := hk'; split at hk'
   ·rename_i hlive; cases hk'; refine ⟨z.blk (am (cat b d).h), by simp only [look, if_neg hnm]; rw [ca, hz]; simp [hlive], ?_⟩; rw [ww (f2 _ _ hz).2 fun m hm => if_neg hm]; exact fJ.refl _
   ·cases hk'
end
end
section
structure Cf (P : Program) (G : zGz) (S : Nm) where
 M : SX P G S
 T : TT P G S
 cs : List (Con P G S)
 N : Nat
 ro : List Nat
 ow : List Nat
 ls : List (Lc P G S)
 n0 : Nat
section
variable {P : Program} {G : zGz} {S : Nm} {R : Type}
structure Cf.Ok (c : Cf P G S) : Prop where
 M : c.M.Ok
 T : c.T.Ok
 cs : ∀ x ∈ c.cs, x.Ok
 ls : ∀ x ∈ c.ls, x.Ok
def qJ (t : Nat) : List Nat -> Bool
 | [] => false
 | x :: r => Nat.beq x t || qJ t r
def mM (b d : DS P G S) (t : Nat) (x : X P G S) (k : B P G S) (K : DS P G S -> Option R) : Option R :=
 if lr d.nx (cat b d) then K ⟨(t, x) :: d.env, (d.nx, k) :: d.h, d.nx + 1⟩ else none
def wS : X P G S -> List Nat
 | .own l => [l]
 | _ => []
def eB : X P G S -> List Nat
 | .own l => [l]
 | .agg cs | .tup cs | .fn _ cs | .mth _ cs => cs.flatMap wS
 | _ => []
def Md : X P G S -> List Nat
 | .own l => [l]
 | .ref l _ => [l]
 | _ => []
def qz (b : DS P G S) : List Nat -> DS P G S -> Option (DS P G S)
 | [], d => some d
 | l :: ls, d => match af (cat b d).h l with
  | some .gone => qz b ls d
  | _ => match ng l b d with
   | some d' => qz b ls d'
   | none => none
def iO (f : X P G S -> List Nat) (env : List (Nat × X P G S)) : List Operand -> List Nat
 | [] => []
 | x :: r => (match evX env x with
  | some y => f y
  | none => []) ++ iO f env r
def MK (ls : List (Lc P G S)) (env : List (Nat × X P G S)) (h : List (Nat × B P G S)) (op : Op) : List Nat :=
 match op with
 | .buildSlice _ _ ps => iO eB env (ps.toList.map (·.2))
 | .build _ ps => (match ps.toList with
  | (0, x) :: r => (match evX env x with
   | some (.own _) => iO eB env (r.map (·.2))
   | _ => iO eB env ((0, x) :: r |>.map (·.2)))
  | l => iO eB env (l.map (·.2)))
 | .makeFunc _ _ caps => iO Md env caps.toList
 | .slice _ x _ _ _ => iO (fun y => match y with
  | .ref l _ => [l]
  | y => eB y) env [x]
 | .convert _ _ x => iO eB env [x]
 | .call ⟨.builtin .append, args, _⟩ => iO eB env (args.toList.drop 1)
 | .call ⟨.value (.func f), args, _⟩ => (match ve f ls with
  | some _ => iO eB env (args.toList.drop 1)
  | none => iO eB env args.toList)
 | .call ⟨.value _, args, _⟩ => iO eB env args.toList
 | .load _ x => (match evX env x with
  | some (.ref l _) => (match af h l with
   | some (.cells cs) => cs.flatMap eB
   | _ => [])
  | _ => [])
 | _ => []
section
variable {F : Fr} {ops rest : zOz} {Q : zQz} {b d : DS P G S} {o : Oper} {K : DS P G S -> Option R} {r : R} {N : Nat}
theorem Bm {l : Nat} {d' : DS P G S} (h : ng l b d = some d') (t : Nat) (x : X P G S) (hx : af (cat b d').env t = some x) : (af (cat b d).env t).isSome = true := by
 have key : ∀ (g : X P G S -> X P G S) (k : List (Nat × B P G S)), af (cat b ⟨(cY l g b d).env, k, (cY l g b d).nx⟩).env t = some x -> (af (cat b d).env t).isSome = true := by
  intro g k hx; have e := nN l g b d t; have hx : af (cat b (cY l g b d)).env t = some x := hx; rw [e] at hx; cases h : af (cat b d).env t with
  | none => rw [h] at hx; cases hx
  | some _ => rfl
 unfold ng at h; split at h
 ·cases h; exact key _ _ hx
 ·split at h
  ·cases h; exact key _ _ hx
  ·cases h
 ·cases h
theorem wI : ∀ {ls : List Nat} {d d' : DS P G S}, qz b ls d = some d' -> St.to F (cat b d).enc (cat b d').enc /\ (St.small N (cat b d).enc -> St.small N (cat b d').enc) := by
 intro ls
 induction ls with
 | nil => intro d d' h; cases h; exact ⟨kZ, id⟩
 | cons l ls ih =>
  intro d d' h; unfold qz at h; split at h
  ·exact ih h
  ·split at h
   ·rename_i d1 h1; obtain ⟨i1, i2⟩ := ih h; refine ⟨aR (Dj h1) i1, fun hs => i2 (lI (N := N) (fun t y hy => ?_) hs)⟩; left; rw [bN] at hy ⊢; simp only [Option.map_eq_some_iff] at hy; obtain ⟨x, hx, _⟩ := hy; simpa using Bm h1 t x hx
   ·cases h
theorem FB (hF : Env F P G N) {c : Cf P G S} (hc : c.Ok) {t : Nat} (hd : o.dst = some t) (ht : Nat.blt t N = true) (hg : aC ops (cat b d).enc.env o.guard = some true)
  (h : vop c.M c.T (cat b d).env (cat b d).h o.op (fun x => K (d.put t x)) = some r) (ih : ∀ d', K d' = some r -> SmG F N ops rest Q (cat b d').enc) : SmG F N ops (o :: rest) Q (cat b d).enc := by
 obtain ⟨z, h1, h2⟩ := Lq hc.M hc.T h; exact SmG.v hF hd ht hg h1 (ih _ h2)
theorem ni {t : Nat} {x : X P G S} {k : B P G S} (ht : Nat.blt t N = true) (hk : k.live = true) (h : mM b d t x k K = some r) (ih : ∀ d', K d' = some r -> SmG F N ops rest Q (cat b d').enc) :
  SmG F N ops rest Q ⟨(t, x.V fun m => if m = d.nx then k.len else am (cat b d).h m) :: (cat b d).enc.env, (d.nx, k.blk fun m => if m = d.nx then k.len else am (cat b d).h m) :: (cat b d).enc.h, d.nx + 1⟩ := by
 unfold mM at h; split at h
 ·rename_i hf; refine kM (Ai hf hk rfl rfl) (lI fun s y hy => .inl ?_) (ih _ h); have ht' : t < N := by simpa [Nat.blt_eq] using ht
  rw [bN] at hy; simp only [Option.map_eq_some_iff] at hy; obtain ⟨z, hz, _⟩ := hy; simp only [look]; split
  ·rfl
  ·rename_i e; rw [bN]; have : af ((t, x) :: (d.env ++ b.env)) s = some z := hz; simp only [af] at this; have e' : Nat.beq t s = false := by cases h : Nat.beq t s with | false => rfl | true => exact absurd (Nat.eq_of_beq_eq_true h) e
   rw [e'] at this; have this : af (cat b d).env s = some z := this; rw [this]; rfl
 ·cases h
def zn (c : Cf P G S) (b d : DS P G S) (t : Nat) (ty : TypeId) (K : DS P G S -> Option R) : Option R :=
 match c.T.zero ty with
 | some z => mM b d t (.ref d.nx 0) (.cells z) K
 | none => none
theorem Eu (hF : Env F P G N) {c : Cf P G S} (hc : c.Ok) {t : Nat} {ty : TypeId} (ho : o.op = .alloc ty) (hd : o.dst = some t) (ht : Nat.blt t N = true) (hg : aC ops (cat b d).enc.env o.guard = some true)
  (h : zn c b d t ty K = some r) (ih : ∀ d', K d' = some r -> SmG F N ops rest Q (cat b d').enc) : SmG F N ops (o :: rest) Q (cat b d).enc := by
 unfold zn at h; split at h
 ·rename_i z hz; obtain ⟨h1, h2⟩ := hc.T.zero _ _ hz; have hv : dF P ty = some (.new (X.ws z) ((X.cs z).map V.d) ty) := by
   unfold bK at h1; unfold dF; simp only [Option.bind_eq_some_iff] at h1 ⊢; obtain ⟨v, hv, h1⟩ := h1; refine ⟨v, hv, ?_⟩; split at h1
   ·rename_i ha; rw [if_pos ha]; simp only [Option.some.injEq] at h1; have : v.cells.size = X.ws z := by rw [<- (cd h2).2, <- h1]; simp
    rw [this, <- h1, List.map_map]; rfl
   ·cases h1
  refine SmG.new hF hd ht hg (aF ho hv) ?_; have := ni (F := F) (ops := ops) (rest := rest) (Q := Q) ht rfl h ih; have e : (B.cells z).blk (fun m => if m = d.nx then (B.cells z).len else am (cat b d).h m) = ⟨X.ws z, [(X.cs z).map V.d]⟩ := by
   show (⟨X.ws z, [vsX _ z]⟩ : Blk) = _; rw [fg (cd h2).1]
  rw [e] at this; exact this
 ·cases h
def LT : X P G S -> Bool
 | .own _ | .ref .. | .el .. => true
 | _ => false
def cellsOf : X P G S -> Option (List (X P G S))
 | .agg cs => if flD cs then some cs else (match cs with
  | .own _ :: r => if flD r then some cs else none
  | _ => none)
 | x => if x.one && (x.isD || LT x) then some [x] else none
theorem ID {cs : List (X P G S)} (h : flD cs = true) : flV cs = true := by
 induction cs with
 | nil => rfl
 | cons x r ih =>
  simp only [flD, Bool.and_eq_true] at h; simp only [flV, Bool.and_eq_true]; exact ⟨h.1.1, ih h.2⟩
theorem KI {x : X P G S} (h : x.one = true) : x.fl = true := by
 unfold X.one at h; split at h
 ·cases h
 ·exact h
theorem uO {x : X P G S} {cs : List (X P G S)} (h : cellsOf x = some cs) (len : Nat -> Nat) : flV cs = true /\ gm (x.V len) = some (X.ws cs, vsX len cs) /\ (flD cs = true -> eU (X.ws cs) (x.V len) = some (X.cs cs)) := by
 unfold cellsOf at h; split at h
 ·rename_i cs'; split at h
  ·rename_i hf; cases h; have hd := (cd hf).1; have e := ci (len := len) (x := .agg cs) hd; refine ⟨ID hf, ?_, fun _ => ?_⟩
   ·rw [e, fg hd]; rfl
   ·rw [e]; show (if X.ws cs = X.ws cs then some (X.cs cs) else none) = _; simp
  ·rename_i hnf; split at h
   ·rename_i l q; split at h
    ·rename_i hf; cases h; obtain ⟨hd, hw⟩ := cd hf; have e : X.V len (.agg (.own l :: q)) = .mix false l (len l) (X.cs q) := if_pos hd; refine ⟨by show ((X.own l).fl && flV q) = true; rw [ID hf]; rfl, ?_, fun hx => absurd hx hnf⟩; rw [e]; show some ((X.cs q).length + 1, V.sref l 0 (len l) :: (X.cs q).map V.d) = some (1 + X.ws q, X.Vs len (.own l) ++ vsX len q); rw [fg hd, hw, Nat.add_comm]; rfl
    ·cases h
   ·cases h
 ·rename_i hna; split at h
  ·rename_i h1; cases h; rw [Bool.and_eq_true, Bool.or_eq_true] at h1; obtain ⟨h1, h2⟩ := h1; obtain ⟨v1, v2⟩ := tO h1 len; have ev : vsX len [x] = [x.V len] := by show x.Vs len ++ [] = _; rw [v1]; rfl
   have ew : X.ws [x] = 1 := by show x.w + 0 = 1; rw [v2]
   refine ⟨by show (x.fl && true) = true; rw [KI h1]; rfl, ?_, fun hf => ?_⟩
   ·rw [ev, ew]; rcases h2 with hd | hr
    ·rw [ci hd]; cases x with
     | agg cs => exact absurd rfl (hna cs)
     | s t v => cases t with
      | _ => first | rfl | (simp [X.one, X.fl] at h1; done)
     | tup cs => simp [X.one, X.fl] at h1
     | und => simp [X.one, X.fl] at h1
     | _ => first | rfl | cases hd
    ·cases x with
     | _ => first | rfl | cases hr
   ·have hd : x.isD = true := by simp only [flD, Bool.and_eq_true] at hf; exact hf.1.2
    rw [ew, vH h1 hd, jX]
  ·cases h
def Gt (c : Cf P G S) (b d : DS P G S) (t : Nat) (x : X P G S) (K : DS P G S -> Option R) : Option R :=
 match cellsOf x with
 | some cs => if qJ t c.ro && flD cs then K (d.put t (.ptr cs)) else if cs.any (X.tch d.nx) then none else mM b d t (.ref d.nx 0) (.cells cs) K
 | none => none
theorem IX (hF : Env F P G N) {c : Cf P G S} {t : Nat} {ty : TypeId} {xo : Operand} {x : X P G S} (ho : o.op = .box ty xo) (hd : o.dst = some t) (ht : Nat.blt t N = true) (hg : aC ops (cat b d).enc.env o.guard = some true) (hx : evX (cat b d).env xo = some x)
  (h : Gt c b d t x K = some r) (ih : ∀ d', K d' = some r -> SmG F N ops rest Q (cat b d').enc) : SmG F N ops (o :: rest) Q (cat b d).enc := by
 unfold Gt at h; split at h
 ·rename_i cs hcs; obtain ⟨c1, c2, c3⟩ := uO hcs (am (cat b d).h); split at h
  ·rename_i hro; rw [Bool.and_eq_true] at hro; refine pT hF (c3 hro.2) ?_ ho (dH hx) hd ht hg; have := ih _ h; have e : X.V (am (cat b d).h) (.ptr cs) = .d (.ptr (X.ws cs) (X.cs cs)) := ci (x := .ptr cs) (cd hro.2).1; rw [<- e]; exact this
  ·split at h
   ·cases h
   ·rename_i hxt; refine SmG.new hF hd ht hg (fb ho (dH hx) (by unfold tQ; rw [c2]; rfl)) ?_; have hk := ni (F := F) (ops := ops) (rest := rest) (Q := Q) ht rfl h ih; have e : (B.cells cs).blk (fun m => if m = d.nx then (B.cells cs).len else am (cat b d).h m) = ⟨X.ws cs, [vsX (am (cat b d).h) cs]⟩ := by
     show (⟨X.ws cs, [vsX _ cs]⟩ : Blk) = _; rw [Cw (by simpa using hxt) fun m hm => if_neg hm]
    rw [e] at hk; exact hk
 ·cases h
theorem FY {l : Nat} {k : B P G S} {kb : Blk} {hh : zHz} (hl : ∃ k0, af (cat b d).h l = some k0 /\ k0.live = true /\ k.len = k0.len) (hk : k.live = true) (hkb : kb = k.blk (am (cat b d).h)) (hh' : hh = rep (cat b d).enc.h l kb) :
  St.to F ⟨(cat b d).enc.env, hh, (cat b d).enc.nx⟩ (cat b ⟨d.env, (l, k) :: d.h, d.nx⟩).enc := by
 obtain ⟨k0, h0, h1, h2⟩ := hl; have hlen : am (cat b ⟨d.env, (l, k) :: d.h, d.nx⟩).h = am (cat b d).h := by
  have : am (cat b ⟨d.env, (l, k) :: d.h, d.nx⟩).h = fun m => if m = l then k.len else am (cat b d).h m := nK
  rw [this]
  funext m
  split
  ·rename_i e; subst e; unfold am; rw [h0]; exact h2
  ·rfl
 subst hh'; refine jH ?_ ?_ (Nat.le_refl _)
 ·intro t y hy; rw [bN, hlen] at hy; exact ⟨y, by rw [bN]; exact hy, V.le.refl _⟩
 ·intro m k' hk'; rw [ca, hlen] at hk'; have e : af (cat b ⟨d.env, (l, k) :: d.h, d.nx⟩).h m = if l = m then some k else af (cat b d).h m := by
   show af ((l, k) :: (d.h ++ b.h)) m = _; simp only [af]; by_cases e : l = m
   ·subst e; rw [Nat.beq_refl, if_pos rfl]
   ·have : Nat.beq l m = false := by cases h : Nat.beq l m with | false => rfl | true => exact absurd (Nat.eq_of_beq_eq_true h) e
    rw [this, if_neg e]; rfl
  rw [e] at hk'; refine ⟨k', ?_, fJ.refl _⟩; rw [cg]; by_cases hlm : l = m
  ·subst hlm; rw [if_pos rfl] at hk' ⊢; rw [ca, h0]; simp only [Option.bind_some, hk, h1, if_true, Option.map_some] at hk' ⊢; rw [hkb]; exact hk'
  ·rw [if_neg hlm] at hk'; rw [if_neg (Ne.symm hlm), ca]; exact hk'
def Im (cs : List (X P G S)) (off s : Nat) (new : List (X P G S)) : Option (List (X P G S)) :=
 match tl cs off, gP cs (off + s) with
 | some pre, some post => some (pre ++ (new ++ post))
 | _, _ => none
theorem Kj {cs new q : List (X P G S)} {off s : Nat} (h : Im cs off s new = some q) (hn : X.ws new = s) (len : Nat -> Nat) (hf : flV cs = true) :
  vsX len q = (vsX len cs).take off ++ (vsX len new ++ (vsX len cs).drop (off + s)) /\ X.ws q = X.ws cs /\ off + s <= (vsX len cs).length := by
 unfold Im at h; split at h
 ·rename_i pre post hp hq; cases h; obtain ⟨g1, g2, p2, e⟩ := ut hp; obtain ⟨g1, g3⟩ := g1 len; obtain ⟨k1, k2, p, e'⟩ := kz hq len; have hw := tU hq; refine ⟨?_, ?_, k2⟩
  ·show (pre ++ (new ++ post)).flatMap _ = _; rw [List.flatMap_append, List.flatMap_append, g1, k1]; rfl
  ·rw [ym, ym, g2, hn, hw, Nat.add_assoc]
 ·cases h
def AM (c : Cf P G S) (b d : DS P G S) (ty : TypeId) (p v : X P G S) (K : DS P G S -> Option R) : Option R :=
 match cellsOf v, az P ty with
 | some ys, some s => if (X.ws ys == s) && Nat.ble 1 s then (match p with
  | .ref l off => (match af (cat b d).h l with
   | some (.cells cs) => if flV cs then (match Im cs off s ys with
    | some q => K ⟨d.env, (l, .cells q) :: d.h, d.nx⟩
    | none => none) else none
   | _ => none)
  | .el l i off => (match af (cat b d).h l with
   | some (.row τ xs) => if flD ys then ob (idx xs i) fun x0 => if flD (c.M.expl 8 τ x0) && (X.ws (c.M.expl 8 τ x0) == (τ.bd P G S).w) then (match DZ (c.M.expl 8 τ x0) off s ys with
    | some q => c.M.dec true 8 τ q fun x1 rest => if rest.isEmpty then K ⟨d.env, (l, .row τ (xs.set i.toNat x1)) :: d.h, d.nx⟩ else none
    | none => none) else none else none
   | _ => none)
  | _ => none) else none
 | _, _ => none
theorem Gd (hF : Env F P G N) {c : Cf P G S} (hc : c.Ok) {ty : TypeId} {po vo : Operand} {p v : X P G S} (ho : o.op = .store ty po vo) (hd : o.dst = none) (hg : aC ops (cat b d).enc.env o.guard = some true) (hp : evX (cat b d).env po = some p) (hv : evX (cat b d).env vo = some v)
  (h : AM c b d ty p v K = some r) (ih : ∀ d', K d' = some r -> SmG F N ops rest Q (cat b d').enc) : SmG F N ops (o :: rest) Q (cat b d).enc := by
 have hsm : ∀ {l : Nat} {k : B P G S} {hh : zHz}, St.small N ⟨(cat b d).enc.env, hh, (cat b d).enc.nx⟩ -> St.small N (cat b ⟨d.env, (l, k) :: d.h, d.nx⟩).enc := by
  intro l k hh; refine lI fun t y hy => .inl ?_
  rw [bN] at hy; simp only [Option.map_eq_some_iff] at hy; obtain ⟨x, hx, _⟩ := hy; show (look (cat b d).enc.env t).isSome = true; rw [bN]; have hx : af (cat b d).env t = some x := hx; rw [hx]; rfl
 unfold AM at h; split at h
 ·rename_i ys s hys hs; obtain ⟨c1, c2, c3⟩ := uO hys (am (cat b d).h); split at h
  ·rename_i hc1; simp only [Bool.and_eq_true, beq_iff_eq] at hc1; obtain ⟨hw, h1s⟩ := hc1; have h1s' := Nat.le_of_ble_eq_true h1s; rw [hw] at c2; split at h
   ·rename_i l off; split at h
    ·rename_i cs hl; split at h
     ·rename_i hf; split at h
      ·rename_i q hq; obtain ⟨u1, u2, u3⟩ := Kj hq hw (am (cat b d).h) hf; have hvl : (vsX (am (cat b d).h) ys).length = s := by rw [zN c1, hw]
       have hcl : (vsX (am (cat b d).h) cs).length = X.ws cs := zN hf _; refine SmG.store hF (kb := ⟨X.ws cs, [vsX (am (cat b d).h) q]⟩) ho hd hg (dH hp) (dH hv) ?_ (kM (FY (l := l) (k := .cells q) ⟨_, hl, rfl, rfl⟩ rfl (by show _ = (⟨X.ws q, [vsX _ q]⟩ : Blk); rw [u2]) rfl) hsm (ih _ h)); have hk := rY hl; rw [aL] at hk; show dp P (cat b d).enc.h ty (.ref l 0 off) _ = _; unfold dp; have hle : off + s <= X.ws cs := by rw [<- hcl]; exact u3
       simp only [hk, Option.bind_some, B.blk, List.getElem?_cons_zero, xT, c2, hs, hle, and_self, if_true, List.set_cons_zero]
       congr 4
       rw [u1]; show (if off = 0 /\ s = X.ws cs then _ else _) = _; split
       ·rename_i e; obtain ⟨rfl, e⟩ := e; rw [List.take_zero, List.nil_append, List.drop_of_length_le (by omega), List.append_nil]
       ·split
        ·rename_i e1; subst e1; obtain ⟨y, hy⟩ := List.length_eq_one_iff.1 hvl; rw [hy]; show (vsX _ cs).set off y = _; rw [FX _ _ _ (by omega)]; rfl
        ·rw [List.append_assoc]
      ·cases h
     ·cases h
    ·cases h
   ·rename_i l i off; split at h
    ·rename_i τ xs hl; split at h
     ·rename_i hfy; obtain ⟨x0, hx0, h⟩ := ap h; split at h
      ·rename_i hfe; simp only [Bool.and_eq_true, beq_iff_eq] at hfe; split at h
       ·rename_i q hq; obtain ⟨u1, u2, u3⟩ := Cr hq hfe.1 hfy hw; obtain ⟨x1, rest', h1, ⟨pre, e, _, _, hex⟩⟩ := hc.M.dec _ _ _ _ _ h; split at h1
        ·rename_i hr; have hr : rest' = [] := List.isEmpty_iff.1 hr; subst hr; rw [List.append_nil] at e; subst e; have he := (hc.M.expl 8 τ x0).1; have hdl := (cd hfe.1).2; rw [he] at u2 u3 hdl; rw [hfe.2] at hdl; have hyd := (cd hfy).1; rw [fg hyd] at c2; have hst := Ln (P := P) (t := ty) (h := (cat b d).enc.h) (l := l) (n := i) (off := off) (m := s) (sz := (τ.bd P G S).w) (row := (τ.bd P G S).cells) (xs := xs) (x := x0) (x' := x1) (ys := X.cs ys) (y := v.V (am (cat b d).h)) (rY hl) hx0 c2 hs (by rw [Nat.ble_eq]; omega) hdl (by rw [(cd hfy).2, hw]) h1s (by rw [List.append_assoc, <- u2]; exact hex rfl); refine SmG.store hF ho hd hg (dH hp) (dH hv) hst (kM (FY (l := l) (k := .row τ (xs.set i.toNat x1)) ⟨_, hl, rfl, by show (xs.set _ _).length = xs.length; simp⟩ rfl rfl rfl) hsm (ih _ h1))
        ·cases h1
       ·cases h
      ·cases h
     ·cases h
    ·cases h
   ·cases h
  ·cases h
 ·cases h
end
end
end
section
section
variable {P : Program} {G : zGz} {S : Nm} {R : Type}
def rN (P : Program) (t : TypeId) : Option (TypeId × Value × Nat × Nat) :=
 match P.underlying t with
 | some (.slice e) => (match P.info? e with
  | some i => (match i.zero with
   | some z => if (z.cells.size == i.size) && Nat.blt 0 i.size && Nat.ble i.bytes 32768 then some (e, z, i.size, i.bytes) else none
   | none => none)
  | none => none)
 | _ => none
theorem rO {t e : TypeId} {z : Value} {s n : Nat} (h : rN P t = some (e, z, s, n)) : ElemT P t e z s n /\ Nat.ble n 32768 = true := by
 unfold rN at h; split at h
 ·rename_i e' hu; split at h
  ·rename_i i hi; split at h
   ·rename_i z' hz; split at h
    ·rename_i hc; simp only [Bool.and_eq_true, beq_iff_eq] at hc; cases h; exact ⟨⟨hu, by rw [hi]; simp [hz], hc.1.1, by simpa [Nat.blt_eq] using hc.1.2⟩, hc.2⟩
    ·cases h
   ·cases h
  ·cases h
 ·cases h
def lE (τ : Ty) (x : X P G S) : Option (List (Den P G S τ)) :=
 match asL x with
 | some ⟨τ', xs, _⟩ => jK (.lst τ') (.lst τ) xs
 | none => (match x with
  | .nil => some []
  | _ => none)
theorem sB {τ : Ty} {x : X P G S} {xs : List (Den P G S τ)} (h : lE τ x = some xs) (len : Nat -> Nat) : ∃ sz f, x.V len = .d (.list sz (xs.map (τ.bd P G S).cells) f) /\ (sz = (τ.bd P G S).w \/ xs.map (τ.bd P G S).cells = []) := by
 unfold lE at h; split at h
 ·rename_i τ' ys f hx; obtain ⟨e, h⟩ := il h; injection e with e; subst e; subst h; exact ⟨_, f, uL hx len, .inl rfl⟩
 ·split at h
  ·cases h; exact ⟨0, true, rfl, .inr rfl⟩
  ·cases h
section
variable {F : Fr} {ops rest : zOz} {Q : zQz} {b d : DS P G S} {o : Oper} {K : DS P G S -> Option R} {r : R} {N : Nat}
def qB (b d : DS P G S) (t l : Nat) (τ : Ty) (zs : List (Den P G S τ)) : DS P G S :=
 let d1 := cY l (fun _ => .any) b d
 ⟨(t, .own l) :: d1.env, (l, .row τ zs) :: d1.h, d1.nx⟩
theorem Ca (l : Nat) (x : D) : cH l (.d x) = .d x := rfl
theorem Jl {t l : Nat} {τ : Ty} {xs zs : List (Den P G S τ)} (hl : af (cat b d).h l = some (.row τ xs)) :
  St.to F ⟨(t, .sref l 0 zs.length) :: dn l (cat b d).enc.env, rep (dt (cH l) (cat b d).enc.h) l (dB (τ.bd P G S).w (zs.map (τ.bd P G S).cells)), (cat b d).enc.nx⟩ (cat b (qB b d t l τ zs)).enc := by
 have hlen : am (cat b (qB b d t l τ zs)).h = fun m => if m = l then zs.length else am (cat b d).h m := by
  have : am (cat b (qB b d t l τ zs)).h = fun m => if m = l then zs.length else am (cat b (cY l (fun _ => .any) b d)).h m := nK
  rw [this]
  funext m
  split
  ·rfl
  ·exact ua
 have hcell : ∀ x : X P G S, CellsR ((x.Vs (am (cat b d).h)).map (cH l)) ((x.Vs (am (cat b d).h)).map (cH l)) := fun x => CellsR.refl _
 refine jH ?_ ?_ (Nat.le_refl _)
 ·intro s y hy; rw [bN, hlen] at hy; have e : af (cat b (qB b d t l τ zs)).env s = if t = s then some (.own l) else (af (cat b d).env s).map (up1 (fun _ => .any) (X.tch l)) := by
   show af ((t, X.own l) :: ((cY l (fun _ => .any) b d).env ++ b.env)) s = _; simp only [af]; by_cases e : t = s
   ·subst e; rw [Nat.beq_refl, if_pos rfl]
   ·have : Nat.beq t s = false := by cases h : Nat.beq t s with | false => rfl | true => exact absurd (Nat.eq_of_beq_eq_true h) e
    rw [this, if_neg e]; exact nN ..
  rw [e] at hy; by_cases hts : t = s
  ·rw [if_pos hts] at hy; simp only [Option.map_some, Option.some.injEq] at hy; subst hy; refine ⟨.sref l 0 zs.length, by simp only [look, if_pos hts], ?_⟩; show V.le _ (.sref l 0 (if l = l then zs.length else _)); rw [if_pos rfl]; exact V.le.refl _
  ·rw [if_neg hts] at hy; cases hz : af (cat b d).env s with
   | none => rw [hz] at hy; cases hy
   | some z =>
    rw [hz] at hy; simp only [Option.map_some, Option.some.injEq] at hy; subst hy; refine ⟨if (z.V (am (cat b d).h)).free l then z.V (am (cat b d).h) else .any, by simp only [look, if_neg hts]; rw [jv, bN, hz]; rfl, ?_⟩; by_cases ht : z.tch l = true
    ·have e : up1 (fun _ => X.any) (X.tch l) z = .any := if_pos ht; rw [e]; exact V.le.any _
    ·have e : up1 (fun _ => X.any) (X.tch l) z = z := if_neg ht; have ht : z.tch l = false := by simpa using ht
     rw [e, if_pos (nw ht), jI (len := am (cat b d).h) ht fun m hm => if_neg hm]; exact V.le.refl _
 ·intro m k' hk'; rw [ca, hlen] at hk'; have e : af (cat b (qB b d t l τ zs)).h m = if l = m then some (.row τ zs) else (af (cat b d).h m).map (up1 (B.map (up1 (fun _ => .any) (X.tch l))) (jf l)) := by
   show af ((l, B.row τ zs) :: ((cY l (fun _ => .any) b d).h ++ b.h)) m = _; simp only [af]; by_cases e : l = m
   ·subst e; rw [Nat.beq_refl, if_pos rfl]
   ·have : Nat.beq l m = false := by cases h : Nat.beq l m with | false => rfl | true => exact absurd (Nat.eq_of_beq_eq_true h) e
    rw [this, if_neg e]; exact vB ..
  rw [e] at hk'; by_cases hlm : l = m
  ·subst hlm; rw [if_pos rfl] at hk'; cases hk'; refine ⟨dB (τ.bd P G S).w (zs.map (τ.bd P G S).cells), ?_, fJ.refl _⟩; show look (rep _ l _) l = _; rw [cg, if_pos rfl, cT, ca, hl]; rfl
  ·rw [if_neg hlm] at hk'; cases hz : af (cat b d).h m with
   | none => rw [hz] at hk'; cases hk'
   | some k =>
    rw [hz] at hk'; simp only [Option.map_some, Option.bind_some] at hk'; split at hk'
    ·rename_i hlive; cases hk'; have hun : ∀ x : X P G S, x.tch l = false -> CellsR ((x.Vs (am (cat b d).h)).map (cH l)) (x.Vs fun m => if m = l then zs.length else am (cat b d).h m) := by
      intro x ht; unfold X.Vs; split
      ·rw [List.map_map]; have : (cH l ∘ V.d) = V.d := rfl; rw [this]; exact CellsR.refl _
      ·rw [jI (len := am (cat b d).h) ht fun m hm => if_neg hm]; simp only [List.map_cons, List.map_nil, cH, nw ht, if_true]; exact CellsR.refl _
     obtain ⟨r1, r2⟩ := wx (l := l) (g := fun _ => X.any) (k := cH l) (len := am (cat b d).h) (len' := fun m => if m = l then zs.length else am (cat b d).h m) (fun _ => rfl) (pi _) (fun x hf => by
      unfold up1; split
      ·rename_i ht; have hnd : x.isD = false /\ x.w = 1 := by
        refine ⟨pX ht, ?_⟩; cases x with
        | agg cs => simp [X.fl] at hf
        | tup cs => simp [X.fl] at hf
        | own | ref | el | fn | mth | mp => rfl
        | _ => cases ht
       refine ⟨hnd.2.symm, ?_⟩; have e : x.Vs (am (cat b d).h) = [x.V (am (cat b d).h)] := by unfold X.Vs; rw [hnd.1]; rfl
       rw [e]; exact .cons (V.le.any _) .nil
      ·rename_i ht; exact ⟨rfl, hun x (by simpa using ht)⟩) (b := k) (fun ht cs e => by
       subst e; have ht' : ∀ x ∈ cs, x.tch l = false := by
        have : cs.any (X.tch l) = false := ht; rw [List.any_eq_false] at this; intro x hx; simpa using this x hx
       clear hz hlive ht e
       induction cs with
       | nil => exact .nil
       | cons x r ih =>
        show CellsR ((x.Vs _ ++ vsX _ r).map _) (x.Vs _ ++ vsX _ r); rw [List.map_append]; have app : ∀ {a b c d : List V}, CellsR a b -> CellsR c d -> CellsR (a ++ c) (b ++ d) := by
         intro a b c d h1 h2
         induction h1 with
         | nil => exact h2
         | cons h _ ih => exact .cons h ih
        exact app (hun x (ht' x (by simp))) (ih fun y hy => ht' y (by simp [hy]))) hlive
     refine ⟨_, ?_, r2⟩; have : look (cat b d).enc.h m = some (k.blk (am (cat b d).h)) := by rw [ca, hz]; simp [r1]
     show look (rep _ l _) m = _; rw [cg, if_neg (Ne.symm hlm), cT, this]; rfl
    ·cases hk'
def Fl (t : Nat) : List (Nat × Nat) -> Nat
 | [] => 0
 | (s, m) :: r => if Nat.beq s t then m else Fl t r
def wu (c : Cf P G S) (md : List (Nat × Nat)) (b d : DS P G S) (t : Nat) (ty : TypeId) (x y : X P G S) (K : DS P G S -> Option R) : Option R :=
 match rN P ty with
 | some (e, _, size, _) => (match c.T.ty e with
  | some τ => if (τ.bd P G S).w == size then (match lE τ y with
   | some ys => (match x with
    | .own l => (match af (cat b d).h l with
     | some (.row τ0 xs0) => (match jK (.lst τ0) (.lst τ) xs0 with
      | some xs => if Nat.ble c.n0 l then ob (app xs ys) fun zs => K (qB b d t l τ zs) else none
      | none => none)
     | _ => none)
    | .nil => ob (app [] ys) fun zs => mM b d t (.own d.nx) (.row τ zs) K
    | x => (match x with
     | .full _ _ => (match lE τ x with
      | some xs => (match Fl t md with
       | 0 => ob (app xs ys) fun zs => K (d.put t (.s (.lst τ) zs))
       | 1 => (match ys with
        | y0 :: yr => ob (app xs (y0 :: yr)) fun zs => mM b d t (.own d.nx) (.row τ zs) K
        | [] => none)
       | _ => (match xs with
        | [] => ob (app [] ys) fun zs => mM b d t (.own d.nx) (.row τ zs) K
        | _ :: _ => none))
      | none => none)
     | _ => none))
   | none => none) else none
  | none => none)
 | none => none
theorem EX {τ τ' : Ty} {xs : List (Den P G S τ)} {ys : List (Den P G S τ')} (h : lE τ (.full τ' ys) = some xs) (len : Nat -> Nat) : X.V len (.full τ' ys : X P G S) = .d (.list (τ.bd P G S).w (xs.map (τ.bd P G S).cells) true) := by
 unfold lE at h; dsimp only [asL] at h; obtain ⟨e, h⟩ := il h; injection e with e; subst e; subst h; rfl
theorem zQ (hF : Env F P G N) {c : Cf P G S} {t : Nat} {ty e : TypeId} {z : Value} {n : Nat} {τ : Ty} {xo yo : Operand} {y : X P G S} {sz : Nat} {ys : List (Den P G S τ)} (hE : ElemT P ty e z (τ.bd P G S).w n) (hB : Nat.ble n 32768 = true)
  (ho : o.op = .call ⟨.builtin .append, #[xo, yo], #[ty, ty]⟩) (hd : o.dst = some t) (ht : Nat.blt t N = true) (hg : aC ops (cat b d).enc.env o.guard = some true) (hx : evB G (cat b d).enc.env xo = some (.d (.list sz [] true))) (hy : evX (cat b d).env yo = some y) (hys : lE τ y = some ys)
  (h : (ob (app [] ys) fun zs => mM b d t (.own d.nx) (.row τ zs) K) = some r) (ih : ∀ d', K d' = some r -> SmG F N ops rest Q (cat b d').enc) : SmG F N ops (o :: rest) Q (cat b d).enc := by
 obtain ⟨zs, hz, h⟩ := ap h; obtain ⟨sy, fy, y1, y2⟩ := sB hys (am (cat b d).h); have hy' := (dH hy).trans (congrArg some y1); refine SmG.appendFreshL hF hE hB (row := (τ.bd P G S).cells) ho hd ht hg hx hy' rfl y2 hz ?_; have := ni (F := F) (ops := ops) (rest := rest) (Q := Q) ht rfl h ih; have e1 : X.V (fun m => if m = d.nx then (B.row τ zs : B P G S).len else am (cat b d).h m) (.own d.nx : X P G S) = .sref d.nx 0 (zs.map (τ.bd P G S).cells).length := by
  show V.sref d.nx 0 (if d.nx = d.nx then zs.length else _) = _; rw [if_pos rfl, List.length_map]
 rw [e1] at this; exact this
theorem CK (hF : Env F P G N) {c : Cf P G S} (h0 : F.n0 = c.n0) {md : List (Nat × Nat)} {t : Nat} {ty : TypeId} {xo yo : Operand} {x y : X P G S} (ho : o.op = .call ⟨.builtin .append, #[xo, yo], #[ty, ty]⟩) (hd : o.dst = some t) (ht : Nat.blt t N = true) (hg : aC ops (cat b d).enc.env o.guard = some true) (hx : evX (cat b d).env xo = some x) (hy : evX (cat b d).env yo = some y)
  (h : wu c md b d t ty x y K = some r) (ih : ∀ d', K d' = some r -> SmG F N ops rest Q (cat b d').enc) : SmG F N ops (o :: rest) Q (cat b d).enc := by
 have ht' : t < N := by simpa [Nat.blt_eq] using ht
 unfold wu at h; split at h
 ·rename_i e z size bytes he; obtain ⟨hE, hB⟩ := rO he; split at h
  ·rename_i τ _; split at h
   ·rename_i hw; have hw : (τ.bd P G S).w = size := by simpa using hw
    subst hw; split at h
    ·rename_i ys hys; obtain ⟨sy, fy, y1, y2⟩ := sB hys (am (cat b d).h); have hy' := (dH hy).trans (congrArg some y1); split at h
     ·rename_i l; split at h
      ·rename_i τ0 xs0 hl; split at h
       ·rename_i xs hcast; obtain ⟨e0, hcast⟩ := il hcast; injection e0 with e0; subst e0; subst hcast; split at h
        case isFalse => cases h
        rename_i hle; have hle : c.n0 <= l := Nat.le_of_ble_eq_true hle; obtain ⟨zs, hz, h⟩ := ap h; have hxv : evB G (cat b d).enc.env xo = some (.sref l 0 (xs0.map (τ0.bd P G S).cells).length) := by
         rw [dH hx]; show some (V.sref l 0 (am (cat b d).h l)) = _; rw [ub hl, List.length_map]
        refine kM (st' := ⟨(cat b d).enc.env, dt (cH l) (cat b d).enc.h, (cat b d).enc.nx⟩) (oW l) (fun hs => hs) ?_; refine gT hF hE hB (row := (τ0.bd P G S).cells) ho hd ht hg hxv hy' rfl ?_ y2 hz (vg l _) ?_ (by omega)
        ·rw [aL, cT, ca, hl]; show some (cA (cH l) (dB _ _)) = _; rw [zy _ (Ca l)]
        ·refine kM (st' := (cat b (qB b d t l τ0 zs)).enc) ?_ ?_ (ih _ h)
         ·rw [List.length_map]; exact Jl hl
         ·refine lI fun s y hy => ?_
          rw [bN] at hy; simp only [Option.map_eq_some_iff] at hy; obtain ⟨w, hw, _⟩ := hy; have hw : af ((t, X.own l) :: ((cY l (fun _ => .any) b d).env ++ b.env)) s = some w := hw; simp only [af] at hw; left; simp only [look]; by_cases hts : t = s
          ·rw [if_pos hts]; rfl
          ·rw [if_neg hts]; have e' : Nat.beq t s = false := by cases h : Nat.beq t s with | false => rfl | true => exact absurd (Nat.eq_of_beq_eq_true h) hts
           rw [e'] at hw; have hw : af (cat b (cY l (fun _ => .any) b d)).env s = some w := hw; rw [nN] at hw; rw [jv, bN]; cases hh : af (cat b d).env s with
           | none => rw [hh] at hw; cases hw
           | some _ => rfl
       ·cases h
      ·cases h
     ·exact zQ hF (c := c) hE hB ho hd ht hg (by rw [dH hx]; rfl) hy hys h ih
     ·split at h
      ·rename_i τ' xs' _; split at h
       ·rename_i xs hxs; have hxv : evB G (cat b d).enc.env xo = some (.d (.list (τ.bd P G S).w (xs.map (τ.bd P G S).cells) true)) := by rw [dH hx, EX hxs]
        split at h
        ·obtain ⟨zs, hz, h⟩ := ap h; exact SmG.appendFullL hF hE hB (row := (τ.bd P G S).cells) ho hd ht hg hxv hy' rfl rfl (.inl rfl) y2 hz (ih _ h)
        ·split at h
         ·rename_i y0 yr _; obtain ⟨zs, hz, h⟩ := ap h; have hsy : sy = (τ.bd P G S).w := y2.resolve_right (by simp); subst hsy; refine wk hF hE hB (row := (τ.bd P G S).cells) ho hd ht hg hxv hy' rfl rfl (.inl rfl) (by simp) hz ?_; have := ni (F := F) (ops := ops) (rest := rest) (Q := Q) ht rfl h ih; have e1 : X.V (fun m => if m = d.nx then (B.row τ zs : B P G S).len else am (cat b d).h m) (.own d.nx : X P G S) = .sref d.nx 0 (zs.map (τ.bd P G S).cells).length := by
           show V.sref d.nx 0 (if d.nx = d.nx then zs.length else _) = _; rw [if_pos rfl, List.length_map]
          rw [e1] at this; exact this
         ·cases h
        ·split at h
         ·exact zQ hF (c := c) hE hB ho hd ht hg hxv hy hys h ih
         ·cases h
       ·cases h
      ·cases h
    ·cases h
   ·cases h
  ·cases h
 ·cases h
def Dy (c : Cf P G S) (b d : DS P G S) (t : Nat) (ty : TypeId) (x : X P G S) (K : DS P G S -> Option R) : Option R :=
 match rN P ty, asI x with
 | some (e, z, size, _), some (_, n, _) => (match c.T.ty e, c.T.zero e with
  | some τ, some zc => if ((τ.bd P G S).w == size) && z.cells.toList.all (·.oneCell') then ob (Dp n) fun m => c.M.dec true 8 τ zc fun z0 rest => if rest.isEmpty then mM b d t (.own d.nx) (.row τ (List.replicate m z0)) K else none else none
  | _, _ => none)
 | _, _ => none
theorem Hi (hF : Env F P G N) {c : Cf P G S} (hc : c.Ok) {t : Nat} {ty : TypeId} {xo : Operand} {x : X P G S} (ho : o.op = .makeSlice ty xo xo) (hd : o.dst = some t) (ht : Nat.blt t N = true) (hg : aC ops (cat b d).enc.env o.guard = some true) (hx : evX (cat b d).env xo = some x)
  (h : Dy c b d t ty x K = some r) (ih : ∀ d', K d' = some r -> SmG F N ops rest Q (cat b d').enc) : SmG F N ops (o :: rest) Q (cat b d).enc := by
 unfold Dy at h; split at h
 ·rename_i e z size bytes k n lit he hi; obtain ⟨hE, hB⟩ := rO he; split at h
  ·rename_i τ zc _ hzc; split at h
   ·rename_i hw; simp only [Bool.and_eq_true, beq_iff_eq] at hw; obtain ⟨hw, hall⟩ := hw; subst hw; obtain ⟨m, hm, h⟩ := ap h; obtain ⟨z0, rest', h1, ⟨pre, ep, _, _, hex⟩⟩ := hc.M.dec _ _ _ _ _ h; split at h1
    ·rename_i hr; have hr : rest' = [] := List.isEmpty_iff.1 hr; subst hr; rw [List.append_nil] at ep; subst ep; have hzero : z.cells.toList.map bS = (τ.bd P G S).cells z0 := by
      obtain ⟨g1, _⟩ := hc.T.zero _ _ hzc; unfold bK lK at g1; have hinfo := hE.info; cases hi : P.info? e with
      | none => rw [hi] at hinfo; cases hinfo
      | some i =>
       rw [hi] at hinfo g1; simp only [Option.map_some, Option.some.injEq, Prod.mk.injEq] at hinfo; simp only [Option.bind_some, hinfo.1, hall, if_true, Option.some.injEq] at g1; rw [g1]; exact hex rfl
     have hx' := (dH hx).trans (congrArg some (dw hi _)); refine Eh hF hE hall hB (row := (τ.bd P G S).cells) (z0 := z0) ho hd ht hg hx' hx' hm hzero ?_; have := ni (F := F) (ops := ops) (rest := rest) (Q := Q) ht rfl h1 ih; have e1 : X.V (fun k => if k = d.nx then (B.row τ (List.replicate m z0) : B P G S).len else am (cat b d).h k) (.own d.nx : X P G S) = .sref d.nx 0 ((List.replicate m z0).map (τ.bd P G S).cells).length := by
      show V.sref d.nx 0 (if d.nx = d.nx then (List.replicate m z0).length else _) = _; rw [if_pos rfl, List.length_map]
     rw [e1] at this; exact this
    ·cases h1
   ·cases h
  ·cases h
 ·cases h
end
end
end
section
section
variable {P : Program} {G : zGz} {S : Nm} {R : Type}
theorem Bp {α : Type} {k t : Nat} {x : α} {r : List (Nat × α)} : af ((k, x) :: r) t = if k = t then some x else af r t := by
 simp only [af]; by_cases e : k = t
 ·subst e; rw [Nat.beq_refl, if_pos rfl]
 ·have : Nat.beq k t = false := by cases h : Nat.beq k t with | false => rfl | true => exact absurd (Nat.eq_of_beq_eq_true h) e
  rw [this, if_neg e]
def jh (b d : DS P G S) (l : Nat) : DS P G S :=
 let d1 := cY l (fun _ => .any) b d
 ⟨d1.env, (l, .gone) :: d1.h, d1.nx⟩
def Ds (c : Cf P G S) (b d : DS P G S) (t l : Nat) (L : Lc P G S) (xs : List (X P G S)) (K : DS P G S -> Option R) : Option R :=
 match af (cat b d).h l with
 | some (.row σ ys) => (match jK (.lst σ) (.lst L.τ) ys with
  | some zs => if cD P L.n then eO c.M L.A xs fun a => ob (L.φ zs a) fun ws => mM b (jh b d l) t (.own d.nx) (.row L.τ ws) K else none
  | none => none)
 | _ => none
theorem tc {μ : zMz} {C : aw} : ∀ {ds : List D} {vs : zLz}, RepVs μ C (ds.map V.d) vs ↔ Rp C (.outs ds vs)
 | [], vs => ⟨fun h => by cases h; exact .onil, fun h => by cases h; exact .nil⟩
 | d :: ds, vs => ⟨fun h => by cases h with | cons _ _ _ _ h1 h2 => exact .ocons _ _ _ _ h1 (tc.1 h2), fun h => by cases h with | ocons _ _ _ _ h1 h2 => exact .cons _ _ _ _ h1 (tc.2 h2)⟩
theorem fH.args {f : FuncId} {h h' : zHz} {n0 n1 : Nat} {x r : V} {ds ds' : List D} (hc : fH P G f h n0 (x :: ds'.map V.d) r h' n1) (hd : ∀ C vs, Rp C (.outs ds vs) -> Rp C (.outs ds' vs)) : fH P G f h n0 (x :: ds.map V.d) r h' n1 := by
 intro μ C w vs hG hk hH hnx ha; refine hc μ C w vs hG hk hH hnx ?_; cases ha with
 | cons _ v _ vs h1 h2 => exact .cons _ _ _ _ h1 (tc.2 (hd C vs (tc.1 h2)))
theorem pU {F : Fr} (hn : F.n0 <= 1) {n sz : Nat} {rows : zRz} {env : zEz} (hE : ∀ t y, look env t = some y -> ∃ d, y = .d d) : St.to F ⟨(0, .sref 0 0 n) :: env, [(0, dB sz rows)], 1⟩ ⟨(0, .sref 1 0 n) :: env, [(1, dB sz rows)], 2⟩ := by
 intro μ C a w hs; have h0 : look ([(0, dB sz rows)] : zHz) 0 = some (dB sz rows) := rfl; obtain ⟨p, hp, hb⟩ := hs.heap 0 _ h0; have h1 : μ 1 = none := hs.nx 1 (Nat.le_refl _); have hmem : ∀ l k, look ([(1, dB sz rows)] : zHz) l = some k -> l = 1 /\ k = dB sz rows := by
  intro l k hk; simp only [look] at hk; split at hk
  ·rename_i e; cases hk; exact ⟨e.symm, rfl⟩
  ·cases hk
 refine ⟨fun l => if l = 1 then some p else μ l, C, hs.size, hs.defers, hs.below, hs.sub, hs.new, hs.known, fun t y hy => ?_, fun l k hk => ?_, fun l l' p1 p2 g1 g2 _ _ _ _ _ => ?_, fun l hl => ?_, F.stab hs.gh ⟨rfl, rfl, rfl, Nat.le_refl _, fun l q hl hq => ?_, fun l hl => ?_, fun _ _ _ => rfl, fun b ⟨l, k, q, g1, g2, g3, g4⟩ => ?_, fun _ _ _ h => h, fun _ _ _ h => .inl h, hs.known⟩⟩
 ·simp only [look] at hy; split at hy
  ·rename_i e; subst e; cases hy; obtain ⟨p2, ao, q1, q2⟩ := hs.env 0 (.sref 0 0 n) (by simp [look]); rw [hp] at q1; cases q1; exact ⟨p, ao, by simp, q2⟩
  ·rename_i e; obtain ⟨d, rfl⟩ := hE t y hy; exact hs.env t (.d d) (by simp only [look, if_neg e]; exact hy)
 ·obtain ⟨rfl, rfl⟩ := hmem l k hk; refine ⟨p, by simp, hb.sz, hb.len, hb.max, hb.row, fun hc => ?_⟩; obtain ⟨c1, c2, cur, T, c3, c4, c5⟩ := hb.cells hc; refine ⟨c1, c2, cur, T, c3, c4, fun i r hr j x hx => ?_⟩; obtain ⟨u, a1, a2, a3⟩ := c5 i r hr j x hx; refine ⟨u, a1, a2, ?_⟩; have : ∃ d, x = .d d := by
   simp only [dB] at hr; rw [List.getElem?_map] at hr; cases hq : rows[i]? with
   | none => rw [hq] at hr; cases hr
   | some row =>
    rw [hq] at hr; cases hr; rw [List.getElem?_map] at hx; cases hd : row[j]? with
    | none => rw [hd] at hx; cases hx
    | some d => rw [hd] at hx; cases hx; exact ⟨d, rfl⟩
  obtain ⟨d, rfl⟩ := this; exact a3
 ·obtain ⟨k1, e1⟩ := Option.isSome_iff_exists.1 g1; obtain ⟨k2, e2⟩ := Option.isSome_iff_exists.1 g2; rw [(hmem l k1 e1).1, (hmem l' k2 e2).1]
 ·have : l ≠ 1 := by intro e; subst e; exact absurd hl (by show ¬ 2 <= 1; omega)
  simp only [if_neg this]; exact hs.nx l (by have : 2 <= l := hl; show 1 <= l; omega)
 ·have : l ≠ 1 := by omega
  simp only [if_neg this]; exact hq
 ·obtain ⟨k, e⟩ := Option.isSome_iff_exists.1 hl; obtain ⟨rfl, _⟩ := hmem l k e; exact .inr h1
 ·obtain ⟨rfl, rfl⟩ := hmem l k g1; simp only [if_true] at g2; cases g2; exact .inl ⟨0, _, p, h0, hp, g3, g4⟩
section
variable {F : Fr} {ops rest : zOz} {Q : zQz} {b d : DS P G S} {o : Oper} {K : DS P G S -> Option R} {r : R} {N : Nat}
theorem Dk (l : Nat) (b d : DS P G S) : (∀ s y, look (cat b (jh b d l)).enc.env s = some y -> ∃ x, look (cat b d).enc.env s = some x /\ V.le x y) /\ (∀ m k', look (cat b (jh b d l)).enc.h m = some k' -> ∃ k, look (bL l (dt (cH l) (cat b d).enc.h)) m = some k /\ fJ k k') := by
 have hlen : am (cat b (jh b d l)).h = fun m => if m = l then 0 else am (cat b d).h m := by
  have : am (cat b (jh b d l)).h = fun m => if m = l then 0 else am (cat b (cY l (fun _ => .any) b d)).h m := nK
  rw [this]
  funext m
  split
  ·rfl
  ·exact ua
 constructor
 ·intro s y hy; rw [bN, hlen] at hy; have e : af (cat b (jh b d l)).env s = (af (cat b d).env s).map (up1 (fun _ => .any) (X.tch l)) := nN ..; rw [e] at hy; cases hz : af (cat b d).env s with
  | none => rw [hz] at hy; cases hy
  | some z =>
   rw [hz] at hy; simp only [Option.map_some, Option.some.injEq] at hy; subst hy; refine ⟨z.V (am (cat b d).h), by rw [bN, hz]; rfl, ?_⟩; by_cases ht : z.tch l = true
   ·have e : up1 (fun _ => X.any) (X.tch l) z = .any := if_pos ht; rw [e]; exact V.le.any _
   ·have e : up1 (fun _ => X.any) (X.tch l) z = z := if_neg ht; have ht : z.tch l = false := by simpa using ht
    rw [e, jI (len := am (cat b d).h) ht fun m hm => if_neg hm]; exact V.le.refl _
 ·intro m k' hk'; rw [ca, hlen] at hk'; have e : af (cat b (jh b d l)).h m = if l = m then some .gone else (af (cat b d).h m).map (up1 (B.map (up1 (fun _ => .any) (X.tch l))) (jf l)) := by
   show af ((l, B.gone) :: ((cY l (fun _ => .any) b d).h ++ b.h)) m = _; simp only [af]; by_cases e : l = m
   ·subst e; rw [Nat.beq_refl, if_pos rfl]
   ·have : Nat.beq l m = false := by cases h : Nat.beq l m with | false => rfl | true => exact absurd (Nat.eq_of_beq_eq_true h) e
    rw [this, if_neg e]; exact vB ..
  rw [e] at hk'; by_cases hlm : l = m
  ·subst hlm; rw [if_pos rfl] at hk'; cases hk'
  ·rw [if_neg hlm] at hk'; cases hz : af (cat b d).h m with
   | none => rw [hz] at hk'; cases hk'
   | some k =>
    rw [hz] at hk'; simp only [Option.map_some, Option.bind_some] at hk'; split at hk'
    ·rename_i hlive; cases hk'; have hun : ∀ x : X P G S, x.tch l = false -> CellsR ((x.Vs (am (cat b d).h)).map (cH l)) (x.Vs fun m => if m = l then 0 else am (cat b d).h m) := by
      intro x ht; unfold X.Vs; split
      ·rw [List.map_map]; have : (cH l ∘ V.d) = V.d := rfl; rw [this]; exact CellsR.refl _
      ·rw [jI (len := am (cat b d).h) ht fun m hm => if_neg hm]; simp only [List.map_cons, List.map_nil, cH, nw ht, if_true]; exact CellsR.refl _
     obtain ⟨r1, r2⟩ := wx (l := l) (g := fun _ => X.any) (k := cH l) (len := am (cat b d).h) (len' := fun m => if m = l then 0 else am (cat b d).h m) (fun _ => rfl) (pi _) (fun x hf => by
      unfold up1; split
      ·rename_i ht; have hnd : x.isD = false /\ x.w = 1 := by
        refine ⟨pX ht, ?_⟩; cases x with
        | agg cs => simp [X.fl] at hf
        | tup cs => simp [X.fl] at hf
        | own | ref | el | fn | mth | mp => rfl
        | _ => cases ht
       refine ⟨hnd.2.symm, ?_⟩; have e : x.Vs (am (cat b d).h) = [x.V (am (cat b d).h)] := by unfold X.Vs; rw [hnd.1]; rfl
       rw [e]; exact .cons (V.le.any _) .nil
      ·rename_i ht; exact ⟨rfl, hun x (by simpa using ht)⟩) (b := k) (fun ht cs e => by
       subst e; have ht' : ∀ x ∈ cs, x.tch l = false := by
        have : cs.any (X.tch l) = false := ht; rw [List.any_eq_false] at this; intro x hx; simpa using this x hx
       clear hz hlive ht e
       induction cs with
       | nil => exact .nil
       | cons x r ih =>
        show CellsR ((x.Vs _ ++ vsX _ r).map _) (x.Vs _ ++ vsX _ r); rw [List.map_append]; have app : ∀ {a b c d : List V}, CellsR a b -> CellsR c d -> CellsR (a ++ c) (b ++ d) := by
         intro a b c d h1 h2
         induction h1 with
         | nil => exact h2
         | cons h _ ih => exact .cons h ih
        exact app (hun x (ht' x (by simp))) (ih fun y hy => ht' y (by simp [hy]))) hlive
     refine ⟨_, ?_, r2⟩; have : look (cat b d).enc.h m = some (k.blk (am (cat b d).h)) := by rw [ca, hz]; simp [r1]
     rw [dM, if_neg (Ne.symm hlm), cT, this]; rfl
    ·cases hk'
theorem nt {env : zEz} {h : zHz} {nx : Nat} (hF : Env F P G N) (m : Nat) {f : FuncId} {xs : List Operand} {ts : Array TypeId} {t : Tmp} {ys xs0 : List V} {r : V} {sz sz' : Nat} {rows rows' : zRz} (ho : o.op = .call ⟨.value (.func f), xs.toArray, ts⟩) (hd : o.dst = some t) (ht : Nat.blt t N = true)
  (hg : aC ops env o.guard = some true) (hargs : mC (evB G env) xs = some ys) (hb : cD P f = true) (hm : af h m = some (dB sz rows)) (hc : fH P G f [(0, dB sz rows)] 1 xs0 r [(1, dB sz' rows')] 2) (hys : ys = xs0.map (V.ren fun _ => m)) (hlow : sZ 1 xs0 = true)
  (k : SmG F N ops rest Q ⟨(t, r.ren (upN (fun _ => m) 1 nx)) :: env, (nx, dB sz' rows') :: bL m h, nx + 1⟩) : SmG F N ops (o :: rest) Q ⟨env, h, nx⟩ := by
 have ht' : t < N := by simpa [Nat.blt_eq] using ht
 intro hs; rw [aL] at hm; rw [Df (aT G env), hys] at hargs; refine Ej hF hs (.one hm) (hc' := (nx, dB sz' rows') :: bL m h) ?_ (aN hg) ho hd hb (by simpa using hargs) hlow ht' hc (k (bJ hs ht')); intro j kb hk; simp only [look] at hk; split at hk
 ·rename_i e; subst e; cases hk; exact .inr ⟨1, _, by simp [upN], rfl, (rK _ _ _).symm⟩
 ·rw [dM] at hk; split at hk
  ·cases hk
  ·rename_i e; exact .inl ⟨hk, fun _ _ h => e h.symm⟩
theorem Kw {ev : Operand -> Option V} : ∀ {xs : List Operand} {ds : List D}, bE ev xs = some ds -> mC ev xs = some (ds.map V.d) := by
 intro xs
 induction xs with
 | nil => intro ds h; cases h; rfl
 | cons x r ih =>
  intro ds h; simp only [bE, Option.bind_eq_some_iff] at h; obtain ⟨v, hv, h⟩ := h; split at h
  ·obtain ⟨es, he, rfl⟩ := Option.map_eq_some_iff.1 h; simp only [mC, hv, ih he, Option.bind_some, Option.map_some, List.map_cons]
  ·cases h
theorem Hf (hF : Env F P G N) {c : Cf P G S} (hc : c.Ok) {t l : Nat} {f : Nat} {x0 : Operand} {args : List Operand} {ts : Array TypeId} (ho : o.op = .call ⟨.value (.func f), (x0 :: args).toArray, ts⟩) (hd : o.dst = some t) (ht : Nat.blt t N = true) (hg : aC ops (cat b d).enc.env o.guard = some true)
  {L : Lc P G S} (hL : L.Ok) (hn : L.n = f) {xs : List (X P G S)} (h0 : evX (cat b d).env x0 = some (.own l)) (hxs : qg (cat b d).env args = some xs)
  (h : Ds c b d t l L xs K = some r) (ih : ∀ d', K d' = some r -> SmG F N ops rest Q (cat b d').enc) : SmG F N ops (o :: rest) Q (cat b d).enc := by
 unfold Ds at h; split at h
 ·rename_i σ ys hl; split at h
  ·rename_i zs hz; obtain ⟨e, hz⟩ := il hz; injection e with e; subst e; cases hz; split at h
   ·rename_i hb; obtain ⟨a, h1, h2, h3⟩ := qe hc.M _ _ _ _ h; obtain ⟨ws, hw, h4⟩ := ap h1; have hcall := fH.args (hL ys a ws hw) h3; subst hn; have ha : mC (evB G (cat b d).enc.env) (x0 :: args) = some (.sref l 0 ys.length :: (X.ds xs).map V.d) := by
     have e1 := dH (G := G) h0; have e2 := Kw (sO (d := cat b d) hxs h2); simp only [mC, e1, e2, Option.bind_some, Option.map_some]; show some (V.sref l 0 (am (cat b d).h l) :: _) = _; rw [ub hl]
    have hk : af (cat b d).enc.h l = some (dB (L.τ.bd P G S).w (ys.map (L.τ.bd P G S).cells)) := by rw [aL, ca, hl]; rfl
    unfold mM at h4; split at h4
    ·rename_i hfr; refine kM (st' := ⟨(cat b d).enc.env, dt (cH l) (cat b d).enc.h, (cat b d).enc.nx⟩) (oW l) (fun hs => hs) ?_; refine nt hF l ho hd ht hg ha hb (rows := ys.map (L.τ.bd P G S).cells) ?_ hcall ?_ ?_ ?_
     ·rw [aL, cT, ca, hl]; show some (cA (cH l) (dB _ _)) = _; rw [zy _ (Ca l)]
     ·show _ = (V.sref l 0 ys.length) :: ((X.ds xs).map V.d).map (V.ren fun _ => l); rw [List.map_map]; rfl
     ·show (true && _) = true; rw [Bool.true_and, List.all_eq_true]; intro y hy; rcases List.mem_cons.1 hy with rfl | hy
      ·rfl
      ·obtain ⟨z, _, rfl⟩ := List.mem_map.1 hy; rfl
     ·obtain ⟨gA, gB⟩ := Dk l b d; have hnew := Ai (F := F) (b := b) (d := jh b d l) (t := t) (n := d.nx) (x := .own d.nx) (k := .row L.τ ws) hfr rfl rfl rfl; refine kM (st' := (cat b ⟨(t, .own d.nx) :: (jh b d l).env, (d.nx, .row L.τ ws) :: (jh b d l).h, d.nx + 1⟩).enc) (aR ?_ hnew) ?_ (ih _ h4)
      ·refine jH ?_ ?_ (Nat.le_refl _)
       ·intro s y hy; simp only [look] at hy ⊢; split at hy
        ·rename_i e; rw [if_pos e]; cases hy; refine ⟨_, rfl, ?_⟩; show V.le (V.sref (upN (fun _ => l) 1 d.nx 1) 0 ws.length) (V.sref d.nx 0 (if d.nx = d.nx then ws.length else _)); rw [if_pos rfl]; have : upN (fun _ => l) 1 d.nx 1 = d.nx := by simp [upN]
         rw [this]; exact V.le.refl _
        ·rename_i e; rw [if_neg e]; exact gA s y hy
       ·intro m k' hk; simp only [look] at hk ⊢; split at hk
        ·rename_i e; have e : (cat b d).enc.nx = m := e; rw [if_pos e]; cases hk; exact ⟨_, rfl, fJ.refl _⟩
        ·rename_i e; have e : ¬ (cat b d).enc.nx = m := e; rw [if_neg e]; exact gB m k' hk
      ·refine lI fun s y hy => ?_
       left; simp only [look]; by_cases hts : t = s
       ·rw [if_pos hts]; rfl
       ·rw [if_neg hts]; rw [bN] at hy; simp only [Option.map_eq_some_iff] at hy; obtain ⟨w, hw, _⟩ := hy; have hw : af ((t, X.own d.nx) :: ((jh b d l).env ++ b.env)) s = some w := hw; rw [Bp, if_neg hts] at hw; have hw : af (cat b (jh b d l)).env s = some w := hw; have hy2 : look (cat b (jh b d l)).enc.env s = some (w.V (am (cat b (jh b d l)).h)) := by rw [bN, hw]; rfl
        obtain ⟨x, hx, _⟩ := gA s _ hy2; show (look (cat b d).enc.env s).isSome = true; rw [hx]; rfl
    ·cases h4
   ·cases h
  ·cases h
 ·cases h
end
end
end
section
structure Ky where
 keep : List Nat
 os : List (Nat × Nat)
 kb : List Nat
 ks : List (Nat × Ty)
 bs : List (Nat × Ty)
 cs : List (Nat × List (Option Ty))
 nx : Nat
inductive Hn where
 | e
 | br (a b : Hn)
 | jn (k : Ky) (mix : Bool) (a b : Hn)
 | nj (a : Hn)
 | lp (ow : List (Nat × Ty)) (k : Ky) (a : Hn)
 | un (n : Nat) (a : Hn)
 | seg (n : Nat) (a : Hn)
section
variable {P : Program} {G : zGz} {S : Nm} {R : Type}
def DL : Operand -> Operand -> Bool
 | .tmp a, .tmp b => Nat.beq a b
 | .const (.int k n), .const (.int k' n') => decide (k = k') && decide (n = n')
 | _, _ => false
theorem HO {x y : Operand} (h : DL x y = true) : x = y := by
 unfold DL at h; split at h
 ·rw [Nat.eq_of_beq_eq_true h]
 ·simp only [Bool.and_eq_true, decide_eq_true_eq] at h; rw [h.1, h.2]
 ·cases h
def nD (M : SX P G S) : (t : Ty) -> List (X P G S) -> (Den P G S t -> Option R) -> Option R
 | .unit, [], K => K ()
 | .pair a b, x :: xs, K => M.decV false a x fun v => nD M b xs fun vs => K (v, vs)
 | .unit, _ :: _, _ => none
 | .pair .., [], _ => none
 | t, [x], K => M.decV false t x K
 | _, _, _ => none
theorem BU {M : SX P G S} (hM : M.Ok) : ∀ (t : Ty) (xs : List (X P G S)) (K : Den P G S t -> Option R) (r : R), nD M t xs K = some r -> ∃ v, K v = some r /\ (X.allD xs = true /\ (X.ds xs).length = ((t.bd P G S).args v).length) /\ ∀ C vs, Rp C (.outs (X.ds xs) vs) -> Rp C (.outs ((t.bd P G S).args v) vs) := by
 intro t; have sing : ∀ (t : Ty), (∀ v : Den P G S t, (t.bd P G S).args v = [(t.bd P G S).one v]) -> ∀ (x : X P G S) (K : Den P G S t -> Option R) (r : R), M.decV false t x K = some r -> ∃ v, K v = some r /\ (X.allD [x] = true /\ (X.ds [x]).length = ((t.bd P G S).args v).length) /\ ∀ C vs, Rp C (.outs (X.ds [x]) vs) -> Rp C (.outs ((t.bd P G S).args v) vs) := by
  intro t ht x K r h; obtain ⟨v, h1, h2⟩ := hM.decV h; refine ⟨v, h1, ⟨by show (x.isD && true) = true; rw [h2.d]; rfl, by rw [ht v]; rfl⟩, fun C => ?_⟩; rw [ht v]; exact fV h2.o (xS (C := C) [])
 induction t with
 | unit =>
  intro xs K r h; cases xs with
  | nil => exact ⟨(), h, ⟨rfl, rfl⟩, fun _ _ h => h⟩
  | cons => simp [nD] at h
 | pair a b _ ihb =>
  intro xs K r h; cases xs with
  | nil => simp [nD] at h
  | cons x xs =>
   have h : (M.decV false a x fun v => nD M b xs fun vs => K (v, vs)) = some r := by simpa [nD] using h
   obtain ⟨v, h1, h2⟩ := hM.decV h; obtain ⟨vs, h3, h4, h5⟩ := ihb xs (fun vs => K (v, vs)) r h1; exact ⟨(v, vs), h3, ⟨by show (x.isD && X.allD xs) = true; rw [h2.d, h4.1]; rfl, congrArg (· + 1) h4.2⟩, fun C => fV h2.o (h5 C)⟩
 | _ =>
  intro xs K r h; rcases xs with _ | ⟨x, _ | ⟨y, xs⟩⟩
  ·simp [nD] at h
  ·exact sing _ (fun _ => rfl) x K r (by simpa [nD] using h)
  ·simp [nD] at h
def CX (c : Cf P G S) (b d : DS P G S) (t : Nat) (f : Operand) (args : List Operand) (K : DS P G S -> Option R) : Option R :=
 match qg (cat b d).env args with
 | some xs => (match f with
  | .func n => (match ve n c.ls, args, xs with
   | some L, _ :: _, .own l :: ys => Ds c b d t l L ys K
   | _, _, _ => sM c.M c.cs n xs (fun z => K (d.put t z)) fun τ ys => mM b d t (.own d.nx) (.row τ ys) K)
  | f => (match evX (cat b d).env f with
   | some (.fn n caps) => sM c.M c.cs n (xs ++ caps) (fun z => K (d.put t z)) fun _ _ => none
   | some (.s (.fn a e) v) => nD c.M a xs fun x => ob (v.f x) fun y => if ig c.M e y then K (d.put t (dO c.M e y).1) else none
   | _ => none))
 | none => none
section
variable {F : Fr} {ops rest : zOz} {Q : zQz} {b d : DS P G S} {o : Oper} {K : DS P G S -> Option R} {r : R} {N : Nat}
theorem Gw (hF : Env F P G N) {c : Cf P G S} (hc : c.Ok) {t : Nat} {f : Operand} {args : Array Operand} {ts : Array TypeId} (ho : o.op = .call ⟨.value f, args, ts⟩) (hd : o.dst = some t) (ht : Nat.blt t N = true) (hg : aC ops (cat b d).enc.env o.guard = some true)
  (h : CX c b d t f args.toList K = some r) (ih : ∀ d', K d' = some r -> SmG F N ops rest Q (cat b d').enc) : SmG F N ops (o :: rest) Q (cat b d).enc := by
 have ho' : o.op = .call ⟨.value f, args.toList.toArray, ts⟩ := by rw [ho]
 have put : ∀ {z : X P G S}, z.isD = true -> K (d.put t z) = some r -> SmG F N ops rest Q ⟨(t, .d z.d) :: (cat b d).enc.env, (cat b d).enc.h, (cat b d).enc.nx⟩ := by
  intro z hz hk; have := ih _ hk; rw [<- ci (len := am (cat b d).h) hz]; exact this
 unfold CX at h; split at h
 ·rename_i xs hxs; split at h
  ·rename_i n; split at h
   ·rename_i L x0 ar l ys hL hargs; obtain ⟨hLok, hLn⟩ := GN hc.ls hL; rw [hargs] at hxs ho'; unfold qg at hxs; split at hxs
    ·rename_i y zs h1 h2; cases hxs; exact Hf hF hc ho' hd ht hg hLok hLn h1 h2 h ih
    ·cases hxs
   obtain ⟨hb, hd', hh⟩ := qc hc.M hc.cs h; have ha := sO (d := cat b d) hxs hd'; rcases hh with ⟨z, z1, z2, z3⟩ | ⟨τ, ys, z2, z3⟩
   ·exact SmG.call hF ho' hd hb ht hg ha z3 (put z1 z2)
   ·refine SmG.callO hF ho' hd hb ht hg ha z3 ?_; have := ni (F := F) (ops := ops) (rest := rest) (Q := Q) ht rfl z2 ih; have e1 : X.V (fun k => if k = d.nx then (B.row τ ys : B P G S).len else am (cat b d).h k) (.own d.nx : X P G S) = .sref d.nx 0 (ys.map (τ.bd P G S).cells).length := by
     show V.sref d.nx 0 (if d.nx = d.nx then ys.length else _) = _; rw [if_pos rfl, List.length_map]
    rw [e1] at this; exact this
  ·split at h
   ·rename_i n caps hf; obtain ⟨hb, hd', hh⟩ := qc hc.M hc.cs h; rw [mc, Bool.and_eq_true] at hd'; have ha := sO (d := cat b d) hxs hd'.1; have hfv : evB G (cat b d).enc.env f = some (.d (.fn n (X.ds caps))) := by
     rw [dH hf, ci (x := .fn n caps) hd'.2]; rfl
    rcases hh with ⟨z, z1, z2, z3⟩ | ⟨τ, ys, z2, z3⟩
    ·rw [xF] at z3; exact SmG.callF hF ho' hd ht hg hfv ha hb z3 (put z1 z2)
    ·cases z2
   ·rename_i a e v hf; obtain ⟨x, h1, ⟨h2, _⟩, h3⟩ := BU hc.M a xs _ _ h; obtain ⟨y, hy, h4⟩ := ap h1; split at h4
    ·rename_i hs; obtain ⟨s1, s2, _, _⟩ := kK hc.M e y hs; have ha := sO (d := cat b d) hxs h2; have hok := v.ok x y hy; refine SmG.callF hF ho' hd ht hg (caps := v.c) (f := v.g) (dH hf) ha v.body ?_ (put s1 h4); rw [s2]; refine aj.args hok fun C vs hv => ?_
     have app : ∀ {ds ds' cs : List D} {vs : zLz}, (∀ vs, Rp C (.outs ds vs) -> Rp C (.outs ds' vs)) -> Rp C (.outs (ds ++ cs) vs) -> Rp C (.outs (ds' ++ cs) vs) := by
      intro ds ds' cs vs hh hv; have sp : ∀ {ds : List D} {vs : zLz}, Rp C (.outs (ds ++ cs) vs) -> ∃ us ws, vs = us ++ ws /\ Rp C (.outs ds us) /\ Rp C (.outs cs ws) := by
       intro ds
       induction ds with
       | nil => intro vs h; exact ⟨[], vs, rfl, .onil, h⟩
       | cons d ds ih => intro vs h; cases h with | ocons _ v _ vs h1 h2 => obtain ⟨us, ws, rfl, k1, k2⟩ := ih h2; exact ⟨v :: us, ws, rfl, .ocons _ _ _ _ h1 k1, k2⟩
      have jn : ∀ {ds : List D} {us ws : zLz}, Rp C (.outs ds us) -> Rp C (.outs cs ws) -> Rp C (.outs (ds ++ cs) (us ++ ws)) := by
       intro ds
       induction ds with
       | nil => intro us ws h k; cases h; exact k
       | cons d ds ih => intro us ws h k; cases h with | ocons _ v _ vs h1 h2 => exact .ocons _ _ _ _ h1 (ih h2 k)
      obtain ⟨us, ws, rfl, k1, k2⟩ := sp hv; exact jn (hh us k1) k2
     exact app (h3 C) hv
    ·cases h4
   ·cases h
 ·cases h
def opG (c : Cf P G S) (md : List (Nat × Nat)) (b d : DS P G S) (o : Oper) (K : DS P G S -> Option R) : Option R :=
 match o.dst with
 | none => (match o.op with
  | .store ty p v => (match evX (cat b d).env p, evX (cat b d).env v with
   | some p, some v => AM c b d ty p v K
   | _, _ => none)
  | _ => none)
 | some t => if Nat.blt t c.N then (match o.op with
  | .alloc ty => zn c b d t ty K
  | .box ty x => (match evX (cat b d).env x with
   | some x => Gt c b d t x K
   | none => none)
  | .makeSlice ty x y => if DL x y then (match evX (cat b d).env x with
   | some x => Dy c b d t ty x K
   | none => none) else none
  | .call ⟨.builtin .append, args, ts⟩ => (match args.toList, ts.toList with
   | [x, y], [t1, t2] => if Nat.beq t1 t2 then (match evX (cat b d).env x, evX (cat b d).env y with
    | some x, some y => wu c md b d t t1 x y K
    | _, _ => none) else none
   | _, _ => none)
  | .call ⟨.value f, args, ts⟩ => CX c b d t f args.toList K
  | .convert s t2 x => (match P.underlying s, P.underlying t2 with
   | some .string, some (.slice e) => (match P.underlying e, evX (cat b d).env x with
    | some (.int .u8), some (.s .str l) => ob (xh l) fun l => K (d.put t (.s (.lst .u8) l))
    | _, _ => none)
   | _, _ => vop c.M c.T (cat b d).env (cat b d).h (.convert s t2 x) fun x => K (d.put t x))
  | op => vop c.M c.T (cat b d).env (cat b d).h op fun x => K (d.put t x)) else none
theorem KJ (hF : Env F P G N) {c : Cf P G S} (h0 : F.n0 = c.n0) (hc : c.Ok) (hN : c.N = N) {md : List (Nat × Nat)} (hg : aC ops (cat b d).enc.env o.guard = some true)
  (h : opG c md b d o K = some r) (ih : ∀ d', K d' = some r -> SmG F N ops rest Q (cat b d').enc) : SmG F N ops (o :: rest) Q (cat b d).enc := by
 subst hN; generalize hd : o.dst = dst at h; generalize ho : o.op = op at h; unfold opG at h; rw [hd, ho] at h; split at h
 ·split at h
  ·split at h
   ·rename_i hp hv; exact Gd hF hc ho hd hg hp hv h ih
   ·cases h
  ·cases h
 ·rename_i t; split at h
  ·rename_i ht; split at h
   ·exact Eu hF hc ho hd ht hg h ih
   ·split at h
    ·rename_i hx; exact IX hF ho hd ht hg hx h ih
    ·cases h
   ·split at h
    ·rename_i hs; obtain rfl := HO hs; split at h
     ·rename_i hx; exact Hi hF hc ho hd ht hg hx h ih
     ·cases h
    ·cases h
   ·split at h
    ·rename_i x y t1 t2 h1 h2; split at h
     ·rename_i ht12; obtain rfl := Nat.eq_of_beq_eq_true ht12; split at h
      ·rename_i hx hy; exact CK hF h0 (by rw [ho, toL h1, toL h2]) hd ht hg hx hy h ih
      ·cases h
     ·cases h
    ·cases h
   ·exact Gw hF hc ho hd ht hg h ih
   ·rename_i s t2 x; split at h
    ·rename_i e h1 h2; split at h
     ·rename_i l h3 hx; obtain ⟨l', hl, h⟩ := ap h; exact SmG.ofString hF ho hd ht hg (dH hx) h1 h2 h3 hl (ih _ h)
     ·cases h
    ·exact FB hF hc hd ht hg (by rw [ho]; exact h) ih
   ·exact FB hF hc hd ht hg (by rw [ho]; exact h) ih
  ·cases h
end
end
end
section
section
variable {P : Program} {G : zGz} {S : Nm} {R : Type}
def rW (ops : zOz) (env : List (Nat × X P G S)) : Option (Nat × Bool) -> Option Bool
 | none => some true
 | some (j, want) => match ops[j]? with
  | some o => (match o.dst with
   | some t => (match af env t with
    | some (.bl b) => (match b, want with
     | true, true => some true
     | true, false => some false
     | false, true => some false
     | false, false => some true)
    | some .und => some false
    | _ => none)
   | none => none)
  | none => none
theorem mw {ops : zOz} {env : List (Nat × X P G S)} {g : Option (Nat × Bool)} {b : Bool} (h : rW ops env g = some b) (len : Nat -> Nat) : aC ops (dq len env) g = some b := by
 unfold rW at h; unfold aC; split at h
 ·exact h
 ·rename_i j want; dsimp only; split at h
  ·rename_i o ho; rw [ho]; dsimp only; split at h
   ·rename_i t ht; rw [ht]; dsimp only [dq]; rw [oz]; split at h
    ·rename_i c hc; rw [hc]; exact h
    ·rename_i hc; rw [hc]; exact h
    ·cases h
   ·cases h
  ·cases h
def LU (ops : zOz) (t : Nat) : Bool := ops.any fun o => match o.guard with
 | some (j, _) => (match ops[j]? with
  | some o' => (match o'.dst with
   | some s => Nat.beq s t
   | none => false)
  | none => false)
 | none => false
def wb (ops : zOz) (env : List (Nat × X P G S)) (o : Oper) : Option (Nat × Operand × Bool) :=
 match o.dst, o.op with
 | some t, .move x => (match evX env x with
  | some (.s .bool v) => if LU ops t then some (t, x, v) else none
  | _ => none)
 | _, _ => none
theorem yh {ops : zOz} {env : List (Nat × X P G S)} {o : Oper} {t : Nat} {x : Operand} {v : Bool} (h : wb ops env o = some (t, x, v)) : o.dst = some t /\ o.op = .move x /\ evX env x = some (.s .bool v) := by
 unfold wb at h; split at h
 ·rename_i hd ho; split at h
  ·rename_i hx; split at h
   ·cases h; exact ⟨hd, ho, hx⟩
   ·cases h
  ·cases h
 ·cases h
def jj (len : Nat -> Nat) (al : List (Nat × B P G S)) : zHz := al.map fun e => (e.1, e.2.blk len)
structure HdOk (h0 al : List (Nat × B P G S)) : Prop where
 live : ∀ e ∈ al, e.2.live = true
 apart : ∀ l, (af al l).isSome = true -> af h0 l = none
 same : dz (am (al ++ h0)) h0 = dz (am h0) h0
theorem HdOk.len {h0 al : List (Nat × B P G S)} (h : HdOk h0 al) : uz h0 (am (al ++ h0)) := fun l τ xs hl => by
 unfold am; rw [bm]; cases ha : af al l with
 | some k => have := h.apart l (by rw [ha]; rfl); rw [hl] at this; cases this
 | none => rw [Option.none_or, hl]; rfl
theorem GH {n : Nat} {len len' : Nat -> Nat} (hl : ∀ m, m ≠ n -> len' m = len m) : ∀ {h : List (Nat × B P G S)}, (∀ e ∈ h, jf n e.2 = false) -> dz len' h = dz len h := by
 intro h
 induction h with
 | nil => intro _; rfl
 | cons e r ih =>
  obtain ⟨l, k⟩ := e; intro hh; unfold dz; rw [ih fun e he => hh e (by simp [he]), ww (hh (l, k) (by simp)) hl]
theorem GF {n : Nat} {len len' : Nat -> Nat} (hl : ∀ m, m ≠ n -> len' m = len m) {h : List (Nat × B P G S)} (hh : ∀ e ∈ h, jf n e.2 = false) : jj len' h = jj len h := by
 unfold jj; apply List.map_congr_left; intro e he; rw [ww (hh e he) hl]
theorem GG {n : Nat} {len len' : Nat -> Nat} (hl : ∀ m, m ≠ n -> len' m = len m) {env : List (Nat × X P G S)} (hh : ∀ e ∈ env, e.2.tch n = false) : dq len' env = dq len env := by
 unfold dq; apply List.map_congr_left; intro e he; rw [jI (hh e he) hl]
theorem HdOk.nil (h0 : List (Nat × B P G S)) : HdOk h0 [] := ⟨by simp, fun l h => by simp [af] at h, rfl⟩
def wQ (benv : List (Nat × X P G S)) (h0 : List (Nat × B P G S)) (env : List (Nat × X P G S)) (al : List (Nat × B P G S)) (nx t : Nat) (x : X P G S) (k : B P G S) (K : List (Nat × X P G S) -> List (Nat × B P G S) -> Nat -> Option R) : Option R :=
 if lr nx ⟨env ++ benv, al ++ h0, nx⟩ && k.live then K ((t, x) :: env) ((nx, k) :: al) (nx + 1) else none
theorem Ci {benv : List (Nat × X P G S)} {h0 : List (Nat × B P G S)} {env : List (Nat × X P G S)} {al : List (Nat × B P G S)} {nx t : Nat} {x : X P G S} {k : B P G S} {K : List (Nat × X P G S) -> List (Nat × B P G S) -> Nat -> Option R} {r : R} (hH : HdOk h0 al) (h : wQ benv h0 env al nx t x k K = some r) :
  K ((t, x) :: env) ((nx, k) :: al) (nx + 1) = some r /\ HdOk h0 ((nx, k) :: al) /\
  dq (am (((nx, k) :: al) ++ h0)) ((t, x) :: env ++ benv) = (t, x.V fun m => if m = nx then k.len else am (al ++ h0) m) :: dq (am (al ++ h0)) (env ++ benv) /\
  jj (am (((nx, k) :: al) ++ h0)) ((nx, k) :: al) = (nx, k.blk fun m => if m = nx then k.len else am (al ++ h0) m) :: jj (am (al ++ h0)) al := by
 unfold wQ at h; split at h
 ·rename_i hc; rw [Bool.and_eq_true] at hc; obtain ⟨hf, hk⟩ := hc; have hlen : am (((nx, k) :: al) ++ h0) = fun m => if m = nx then k.len else am (al ++ h0) m := nK
  have hf' := hf; simp only [lr, Bool.and_eq_true, List.all_eq_true, Bool.not_eq_true'] at hf; obtain ⟨f1, f2⟩ := hf; have hn : ∀ m, m ≠ nx -> (fun m => if m = nx then k.len else am (al ++ h0) m) m = am (al ++ h0) m := fun m hm => if_neg hm
  refine ⟨h, ⟨fun e he => ?_, fun l hl => ?_, ?_⟩, ?_, ?_⟩
  ·rcases List.mem_cons.1 he with rfl | he
   ·exact hk
   ·exact hH.live e he
  ·simp only [af] at hl; by_cases e : nx = l
   ·subst e; have := (xM hf').2; cases hh : af h0 nx with
    | none => rfl
    | some z =>
     have h2 : (af (al ++ h0) nx).isSome = true := by
      rw [bm, hh]; cases af al nx <;> rfl
     obtain ⟨z', hz'⟩ := Option.isSome_iff_exists.1 h2; exact absurd rfl (this nx z' hz').1
   ·have e' : Nat.beq nx l = false := by cases h : Nat.beq nx l with | false => rfl | true => exact absurd (Nat.eq_of_beq_eq_true h) e
    rw [e'] at hl; exact hH.apart l hl
  ·rw [hlen, GH hn fun e he => (f2 e (by simp [he])).2, hH.same]
  ·rw [hlen]; show (t, _) :: dq _ (env ++ benv) = _; rw [GG hn fun e he => f1 e he]
  ·rw [hlen]; show (nx, _) :: jj _ al = _; rw [GF hn fun e he => (f2 e (by simp [he])).2]
 ·cases h
def opH (c : Cf P G S) (md : List (Nat × Nat)) (benv : List (Nat × X P G S)) (h0 : List (Nat × B P G S)) (env : List (Nat × X P G S)) (al : List (Nat × B P G S)) (nx : Nat) (o : Oper) (K : List (Nat × X P G S) -> List (Nat × B P G S) -> Nat -> Option R) : Option R :=
 match o.dst with
 | none => none
 | some t => if Nat.blt t c.N then (match o.op with
  | .alloc ty => (match c.T.zero ty with
   | some z => wQ benv h0 env al nx t (.ref nx 0) (.cells z) K
   | none => none)
  | .call ⟨.builtin .append, args, ts⟩ => (match args.toList, ts.toList with
   | [x, y], [t1, t2] => if Nat.beq t1 t2 then (match rN P t1, evX (env ++ benv) x, evX (env ++ benv) y with
    | some (e, _, size, _), some x, some y => (match c.T.ty e with
     | some τ => if (τ.bd P G S).w == size then (match lE τ y with
      | some ys => (match x with
       | .nil => ob (app [] ys) fun zs => wQ benv h0 env al nx t (.own nx) (.row τ zs) K
       | .full τ' xs' => (match lE τ (.full τ' xs') with
        | some xs => ob (app xs ys) fun zs => K ((t, .s (.lst τ) zs) :: env) al nx
        | none => none)
       | _ => none)
      | none => none) else none
     | none => none)
    | _, _, _ => none) else none
   | _, _ => none)
  | .call ⟨.value f, args, _⟩ => (match qg (env ++ benv) args.toList with
   | some xs => (match f with
    | .func n => sM c.M c.cs n xs (fun z => K ((t, z) :: env) al nx) fun τ ys => wQ benv h0 env al nx t (.own nx) (.row τ ys) K
    | f => (match evX (env ++ benv) f with
     | some (.fn n caps) => sM c.M c.cs n (xs ++ caps) (fun z => K ((t, z) :: env) al nx) fun _ _ => none
     | _ => none))
   | none => none)
  | .convert s t2 x => (match P.underlying s, P.underlying t2 with
   | some .string, some (.slice e) => (match P.underlying e, evX (env ++ benv) x with
    | some (.int .u8), some (.s .str l) => ob (xh l) fun l => K ((t, .s (.lst .u8) l) :: env) al nx
    | _, _ => none)
   | _, _ => vop c.M c.T (env ++ benv) h0 (.convert s t2 x) fun x => K ((t, x) :: env) al nx)
  | op => vop c.M c.T (env ++ benv) h0 op fun x => K ((t, x) :: env) al nx) else none
section
variable {F : Fr} {ops rest : zOz} {Kv : zEz -> zHz -> Nat -> Prop} {benv env : List (Nat × X P G S)} {h0 al : List (Nat × B P G S)} {nx : Nat} {o : Oper} {K : List (Nat × X P G S) -> List (Nat × B P G S) -> Nat -> Option R} {r : R} {N : Nat}
theorem KK (hF : Env F P G N) {c : Cf P G S} (hc : c.Ok) (hN : c.N = N) {md : List (Nat × Nat)} (hg : aC ops (dq (am (al ++ h0)) (env ++ benv)) o.guard = some true) (hH : HdOk h0 al)
  (h : opH c md benv h0 env al nx o K = some r) (ih : ∀ env' al' nx', K env' al' nx' = some r -> HdOk h0 al' -> au F G N ops.toArray (dz (am h0) h0) rest (dq (am (al' ++ h0)) (env' ++ benv)) (jj (am (al' ++ h0)) al') nx' Kv) :
  au F G N ops.toArray (dz (am h0) h0) (o :: rest) (dq (am (al ++ h0)) (env ++ benv)) (jj (am (al ++ h0)) al) nx Kv := by
 subst hN; generalize hd : o.dst = dst at h; generalize ho : o.op = op at h; unfold opH at h; rw [hd, ho] at h; split at h
 ·cases h
 ·rename_i t; split at h
  ·rename_i ht; have put : ∀ {z : X P G S}, K ((t, z) :: env) al nx = some r -> au F G c.N ops.toArray (dz (am h0) h0) rest ((t, z.V (am (al ++ h0))) :: dq (am (al ++ h0)) (env ++ benv)) (jj (am (al ++ h0)) al) nx Kv := fun hk => ih _ _ _ hk hH
   have vput : vop c.M c.T (env ++ benv) h0 o.op (fun x => K ((t, x) :: env) al nx) = some r -> au F G c.N ops.toArray (dz (am h0) h0) (o :: rest) (dq (am (al ++ h0)) (env ++ benv)) (jj (am (al ++ h0)) al) nx Kv := by
    intro hv; obtain ⟨z, h1, h2⟩ := Cv hc.M hc.T hH.len hv; rw [hH.same] at h1; exact au.v hF hd ht hg h1 (put h2)
   have newr : ∀ {τ : Ty} {ys : List (Den P G S τ)}, wQ benv h0 env al nx t (.own nx) (.row τ ys) K = some r -> au F G c.N ops.toArray (dz (am h0) h0) rest ((t, .sref nx 0 (ys.map (τ.bd P G S).cells).length) :: dq (am (al ++ h0)) (env ++ benv)) ((nx, dB (τ.bd P G S).w (ys.map (τ.bd P G S).cells)) :: jj (am (al ++ h0)) al) (nx + 1) Kv := by
    intro τ ys hk; obtain ⟨k1, k2, k3, k4⟩ := Ci hH hk; have := ih _ _ _ k1 k2; rw [k3, k4] at this; have e1 : X.V (fun m => if m = nx then (B.row τ ys : B P G S).len else am (al ++ h0) m) (.own nx : X P G S) = .sref nx 0 (ys.map (τ.bd P G S).cells).length := by
     show V.sref nx 0 (if nx = nx then ys.length else _) = _; rw [if_pos rfl, List.length_map]
    rw [e1] at this; exact this
   split at h
   ·rename_i ty; split at h
    ·rename_i z hz; obtain ⟨h1, h2⟩ := hc.T.zero _ _ hz; have hv : dF P ty = some (.new (X.ws z) ((X.cs z).map V.d) ty) := by
      unfold bK at h1; unfold dF; simp only [Option.bind_eq_some_iff] at h1 ⊢; obtain ⟨v, hv, h1⟩ := h1; refine ⟨v, hv, ?_⟩; split at h1
      ·rename_i ha; rw [if_pos ha]; simp only [Option.some.injEq] at h1; have : v.cells.size = X.ws z := by rw [<- (cd h2).2, <- h1]; simp
       rw [this, <- h1, List.map_map]; rfl
      ·cases h1
     refine au.new hF ho hd ht hg hv ?_; obtain ⟨k1, k2, k3, k4⟩ := Ci hH h; have := ih _ _ _ k1 k2; rw [k3, k4] at this; have e : (B.cells z).blk (fun m => if m = nx then (B.cells z).len else am (al ++ h0) m) = ⟨X.ws z, [(X.cs z).map V.d]⟩ := by
      show (⟨X.ws z, [vsX _ z]⟩ : Blk) = _; rw [fg (cd h2).1]
     rw [e] at this; exact this
    ·cases h
   ·split at h
    ·rename_i x y t1 t2 h1 h2; split at h
     ·rename_i ht12; obtain rfl := Nat.eq_of_beq_eq_true ht12; have ho' : o.op = .call ⟨.builtin .append, #[x, y], #[t1, t1]⟩ := by rw [ho, toL h1, toL h2]
      split at h
      ·rename_i e z size bytes x' y' he hx hy; obtain ⟨hE, hB⟩ := rO he; split at h
       ·rename_i τ _; split at h
        ·rename_i hw; have hw : (τ.bd P G S).w = size := by simpa using hw
         subst hw; split at h
         ·rename_i ys hys; obtain ⟨sy, fy, y1, y2⟩ := sB hys (am (al ++ h0)); have hy' := (bu (len := am (al ++ h0)) hy).trans (congrArg some y1); split at h
          ·obtain ⟨zs, hz, h⟩ := ap h; exact au.appendFreshL hF hE hB (row := (τ.bd P G S).cells) ho' hd ht hg (bu hx) hy' rfl y2 hz (newr h)
          ·split at h
           ·rename_i xs hxs; obtain ⟨zs, hz, h⟩ := ap h; have hx' := (bu (len := am (al ++ h0)) hx).trans (congrArg some (EX hxs _)); exact au.appendFullL hF hE hB (row := (τ.bd P G S).cells) ho' hd ht hg hx' hy' rfl rfl (.inl rfl) y2 hz (put h)
           ·cases h
          ·cases h
         ·cases h
        ·cases h
       ·cases h
      ·cases h
     ·cases h
    ·cases h
   ·rename_i f args ts; have ho' : o.op = .call ⟨.value f, args.toList.toArray, ts⟩ := by rw [ho]
    have dput : ∀ {z : X P G S}, z.isD = true -> K ((t, z) :: env) al nx = some r -> au F G c.N ops.toArray (dz (am h0) h0) rest ((t, .d z.d) :: dq (am (al ++ h0)) (env ++ benv)) (jj (am (al ++ h0)) al) nx Kv := by
     intro z hz hk; rw [<- ci (len := am (al ++ h0)) hz]; exact put hk
    split at h
    ·rename_i xs hxs; split at h
     ·rename_i n; obtain ⟨hb, hd', hh⟩ := qc hc.M hc.cs h; have ha := qh (len := am (al ++ h0)) hxs hd'; rcases hh with ⟨z, z1, z2, z3⟩ | ⟨τ, ys, z2, z3⟩
      ·exact au.c hF ho' hd hb ht hg ha z3 (dput z1 z2)
      ·exact au.co hF ho' hd hb ht hg ha z3 (newr z2)
     ·split at h
      ·rename_i n caps hf; obtain ⟨hb, hd', hh⟩ := qc hc.M hc.cs h; rw [mc, Bool.and_eq_true] at hd'; have ha := qh (len := am (al ++ h0)) hxs hd'.1; have hfv : evB G (dq (am (al ++ h0)) (env ++ benv)) f = some (.d (.fn n (X.ds caps))) := by
        rw [bu hf, ci (x := .fn n caps) hd'.2]; rfl
       rcases hh with ⟨z, z1, z2, z3⟩ | ⟨τ, ys, z2, z3⟩
       ·rw [xF] at z3; exact au.cf hF ho' hd ht hg hfv ha hb z3 (dput z1 z2)
       ·cases z2
      ·cases h
    ·cases h
   ·rename_i s t2 x; split at h
    ·rename_i e h1 h2; split at h
     ·rename_i l h3 hx; obtain ⟨l', hl, h⟩ := ap h; exact au.ofString hF ho hd ht hg (bu hx) h1 h2 h3 hl (put h)
     ·cases h
    ·exact vput (by rw [ho]; exact h)
   ·exact vput (by rw [ho]; exact h)
  ·cases h
end
end
end
section
section
variable {P : Program} {G : zGz} {S : Nm}
def rL : List Nat -> List Nat
 | [] => []
 | x :: r => if qJ x r then rL r else x :: rL r
def qV {R : Type} (c : Cf P G S) (md : List (Nat × Nat)) (ops : zOz) (b : DS P G S) : List Oper -> Hn -> DS P G S -> (Hn -> DS P G S -> Option R) -> Option R
 | [], H, d, K => K H d
 | o :: rest, H, d, K =>
  match rW ops (cat b d).env o.guard with
  | none => none
  | some false => (match o.dst with
   | some t => if Nat.blt t c.N then qV c md ops b rest H (d.put t .und) K else none
   | none => qV c md ops b rest H d K)
  | some true => (match wb ops (cat b d).env o with
   | some (t, _, v) => if Nat.blt t c.N then (match H with
    | .br Ha Hb => bif v then qV c md ops b rest Ha (d.put t (.bl true)) K else qV c md ops b rest Hb (d.put t (.bl false)) K
    | _ => none) else none
   | none => (match qz b (rL (MK c.ls (cat b d).env (cat b d).h o.op)) d with
    | some d1 => (match rW ops (cat b d1).env o.guard with
     | some true => opG c md b d1 o fun d' => qV c md ops b rest H d' K
     | _ => none)
    | none => none))
def qW {R : Type} (c : Cf P G S) (md : List (Nat × Nat)) (ops : zOz) (benv : List (Nat × X P G S)) (h0 : List (Nat × B P G S)) : List Oper -> Hn -> List (Nat × X P G S) -> List (Nat × B P G S) -> Nat -> (Hn -> List (Nat × X P G S) -> List (Nat × B P G S) -> Nat -> Option R) -> Option R
 | [], H, env, al, nx, K => K H env al nx
 | o :: rest, H, env, al, nx, K =>
  match rW ops (env ++ benv) o.guard with
  | none => none
  | some false => (match o.dst with
   | some t => if Nat.blt t c.N then qW c md ops benv h0 rest H ((t, .und) :: env) al nx K else none
   | none => none)
  | some true => (match wb ops (env ++ benv) o with
   | some (t, _, v) => if Nat.blt t c.N then (match H with
    | .br Ha Hb => bif v then qW c md ops benv h0 rest Ha ((t, .bl true) :: env) al nx K else qW c md ops benv h0 rest Hb ((t, .bl false) :: env) al nx K
    | _ => none) else none
   | none => opH c md benv h0 env al nx o fun env' al' nx' => qW c md ops benv h0 rest H env' al' nx' K)
def wa (N : Nat) (env : List (Nat × X P G S)) : Bool := env.all fun e => Nat.blt e.1 N
def HE {R : Type} (c : Cf P G S) (md : List (Nat × Nat)) (l : zOz) (draw : Bool) (b : DS P G S) (H0 : Hn) (d : DS P G S) (K : Hn -> DS P G S -> Option R) : Option R :=
 if wa c.N (d.env ++ b.env) then (match draw with
  | false => qV c md l b l H0 d K
  | true => (match H0 with
   | .seg n H1 => if P.follows .mixedOrders && vj l n && Dc l n then
    qW c md l b.env (d.h ++ b.h) (l.take n) H1 d.env [] d.nx fun H2 env al nx => if wa c.N (env ++ b.env) then qV c md l b (l.drop n) H2 ⟨env, al ++ d.h, nx⟩ K else none else none
   | _ => none)) else none
def ti : X P G S -> X P G S -> Bool
 | .own l, .own m => Nat.beq l m
 | .ref l o, .ref m q => Nat.beq l m && Nat.beq o q
 | _, _ => false
def yY (d' s : DS P G S) : List Nat -> Bool
 | [] => true
 | t :: r => (match af d'.env t with
  | none => true
  | some x => (match af s.env t with
   | some y => ti x y
   | none => false)) && yY d' s r
def yZ (env : List (Nat × X P G S)) : List (Nat × Nat) -> Bool
 | [] => true
 | (t, l) :: r => (match af env t with
  | some (.own m) => Nat.beq m l
  | _ => false) && yZ env r
def yX (d' : DS P G S) : List Nat -> Bool
 | [] => true
 | l :: r => (af d'.h l).isNone && yX d' r
def Dn (env : List (Nat × X P G S)) : List (Nat × Ty) -> Option (List (X P G S))
 | [] => some []
 | (t, _) :: r => match af env t, Dn env r with
  | some x, some xs => some (x :: xs)
  | _, _ => none
def isP : Ty -> Bool
 | .pair .. => true
 | _ => false
def zZ (h : List (Nat × B P G S)) : List (Nat × Ty) -> Option (List (X P G S))
 | [] => some []
 | (l, _) :: r => match af h l, zZ h r with
  | some (.row τ xs), some ys => if isP τ then none else some (.s (.lst τ) xs :: ys)
  | some (.mp a b xs), some ys => some (.s (.lst (.pair a b)) xs :: ys)
  | _, _ => none
def sX : List (Option Ty) -> List (X P G S) -> List (X P G S) -> Option (List (X P G S))
 | [], [], [] => some []
 | some _ :: ts, x :: xs, _ :: ys => if x.one then (sX ts xs ys).map (x :: ·) else none
 | none :: ts, x :: xs, y :: ys => if ti x y then sX ts xs ys else none
 | _, _, _ => none
def Dm (h h0 : List (Nat × B P G S)) : List (Nat × List (Option Ty)) -> Option (List (X P G S))
 | [] => some []
 | (l, ts) :: r => match af h l, af h0 l, Dm h h0 r with
  | some (.cells xs), some (.cells ys), some zs => (sX ts xs ys).map (· ++ zs)
  | _, _, _ => none
def Ky.tys (k : Ky) : List Ty := k.ks.map (·.2) ++ (k.bs.map fun e => Ty.lst e.2) ++ k.cs.flatMap fun e => e.2.filterMap id
def sI (M : SX P G S) : List (Nat × Ty) -> List ((t : Ty) × Den P G S t) -> List (Nat × X P G S)
 | (t, _) :: r, ⟨τ, v⟩ :: vs => (t, (dO M τ v).1) :: sI M r vs
 | _, _ => []
def jV : List (Nat × Ty) -> List ((t : Ty) × Den P G S t) -> List (Nat × B P G S)
 | (l, _) :: r, ⟨.lst (.pair a b), v⟩ :: vs => (l, .mp a b v) :: jV r vs
 | (l, _) :: r, ⟨.lst τ, v⟩ :: vs => (l, .row τ v) :: jV r vs
 | _, _ => []
def vY : List (Option Ty) -> List (X P G S) -> List ((t : Ty) × Den P G S t) -> List (X P G S)
 | some _ :: ts, _ :: ys, ⟨τ, v⟩ :: vs => .s τ v :: vY ts ys vs
 | none :: ts, y :: ys, vs => y :: vY ts ys vs
 | _, _, _ => []
def uq (h0 : List (Nat × B P G S)) : List (Nat × List (Option Ty)) -> List ((t : Ty) × Den P G S t) -> List (Nat × B P G S)
 | [], _ => []
 | (l, ts) :: r, vs => (match af h0 l with
  | some (.cells ys) => [(l, .cells (vY ts ys vs))]
  | _ => []) ++ uq h0 r (vs.drop (ts.filterMap id).length)
def pick {α : Type} (r : List (Nat × α)) : List Nat -> List (Nat × α)
 | [] => []
 | t :: ts => (match af r t with
  | some x => [(t, x)]
  | none => []) ++ pick r ts
def dv (k : Ky) (s : DS P G S) : DS P G S := ⟨pick s.env k.keep, pick s.h k.kb, s.nx⟩
def ef (c : Cf P G S) (k : Ky) (s : DS P G S) (nx : Nat) (v : Den P G S (Ty.tup k.tys)) : DS P G S :=
 let vs := jB k.tys v
 ⟨sI c.M k.ks vs ++ k.os.map (fun e => (e.1, .own e.2)), jV k.bs (vs.drop k.ks.length) ++ uq s.h k.cs (vs.drop (k.ks.length + k.bs.length)), nx⟩
def nmK (k : Ky) (l : Nat) : Bool := qJ l k.kb || k.bs.any fun e => Nat.beq e.1 l
def mL (n : Nat) : X P G S -> Bool
 | .own l => Nat.blt l n
 | .ref l _ => Nat.blt l n
 | .el l _ _ => Nat.blt l n
 | .mp l => Nat.blt l n
 | _ => true
def ltX (n : Nat) : X P G S -> Bool
 | .agg cs | .tup cs | .fn _ cs | .mth _ cs => cs.all (mL n)
 | x => mL n x
def ltD (n : Nat) (t : DS P G S) : Bool := (t.env.all fun e => ltX n e.2) && t.h.all fun e => Nat.blt e.1 n && (match e.2 with
 | .cells cs => cs.all (ltX n)
 | _ => true)
def DY (c : Cf P G S) (k : Ky) (s src : DS P G S) (v : Den P G S (Ty.tup k.tys)) : Bool :=
 let t := cat (dv k s) (ef c k s 0 v)
 ltD k.nx t &&
 ((jB k.tys v).all fun e => ig c.M e.1 e.2) && (t.env.all fun e => (eB e.2).all (nmK k)) &&
  t.h.all fun e => match e.2 with
   | .cells cs => flV cs && (cs.all fun x => (eB x).all (nmK k)) && (match af src.h e.1 with
    | some (.cells xs) => (X.ws xs == X.ws cs) && flV xs
    | _ => false)
   | _ => true
def qO {R : Type} (c : Cf P G S) (k : Ky) (s : DS P G S) (b d : DS P G S) (K : Den P G S (Ty.tup k.tys) -> Option R) : Option R :=
 match qz b (rL (k.ks.flatMap fun e => match af (cat b d).env e.1 with
  | some x => eB x
  | none => [])) d with
 | some d1 => if Nat.ble c.n0 k.nx && yY d1 s k.keep && yX d1 k.kb && yZ (cat b d1).env k.os then (match Dn (cat b d1).env k.ks, zZ (cat b d1).h k.bs, Dm (cat b d1).h s.h k.cs with
  | some a, some e, some f => eO c.M k.tys (a ++ e ++ f) fun v => if DY c k s (cat b d1) v then K v else none
  | _, _, _ => none) else none
 | none => none
def qD {α : Type} (z : α) (keep : List Nat) : List (Nat × α) -> List (Nat × α)
 | [] => []
 | (t, _) :: r => if qJ t keep then qD z keep r else (t, z) :: qD z keep r
def jy (k : Ky) (b d d' : DS P G S) : DS P G S := ⟨d'.env ++ (pick d.env k.keep ++ qD .any k.keep b.env), d'.h ++ (pick d.h k.kb ++ qD .gone k.kb b.h), d'.nx⟩
def wT (b : DS P G S) : List (Nat × Ty) -> DS P G S -> Option (DS P G S)
 | [], d => some d
 | (t, τ) :: r, d => match af (cat b d).env t with
  | some .nil => if lr d.nx (cat b d) then wT b r ⟨(t, .own d.nx) :: d.env, (d.nx, .row τ []) :: d.h, d.nx + 1⟩ else none
  | some (.full _ []) => if lr d.nx (cat b d) then wT b r ⟨(t, .own d.nx) :: d.env, (d.nx, .row τ []) :: d.h, d.nx + 1⟩ else none
  | _ => none
abbrev Rn (P : Program) (G : zGz) (S : Nm) : Type 1 := (R : Type) -> DS P G S -> Hn -> DS P G S -> (Exit -> Hn -> DS P G S -> Option R) -> Option R
def xf (x y : Rn P G S) : Rn P G S := fun R b H d K => x R b H d fun e H d => match e with
 | .normal => y R b H d K
 | e => K e H d
def yW (c : Cf P G S) (k : Ky) (mix : Bool) (Ha Hb : Hn) (x y : Rn P G S) (R : Type) (b d : DS P G S) (K : Exit -> Hn -> DS P G S -> Option R) : Option R :=
 let s := cat b d
 let b2 := dv k s
 let K2 : Exit -> Hn -> DS P G S -> Option R := fun e H d' => K e H (jy k b d d')
 match mix with
 | false => ob (x _ s Ha ⟨[], [], d.nx⟩ fun e _ d' => match e with
  | .normal => qO c k s s d' fun v => some v
  | _ => none) fun v => y R b2 Hb (ef c k s k.nx v) K2
 | true => ob (x _ s Ha ⟨[], [], d.nx⟩ fun e H d' => match e with
  | .normal => qO c k s s d' fun v => some (Sum.inl v)
  | e => (K e H ⟨d'.env ++ d.env, d'.h ++ d.h, d'.nx⟩).map Sum.inr) fun o => match o with
   | .inl v => y R b2 Hb (ef c k s k.nx v) K2
   | .inr e => some e
def DM (c : Cf P G S) (n : Nat) (x y : Rn P G S) : Rn P G S := fun R b H d K =>
 match n with
 | 2 => (match H with
  | .jn k mix Ha Hb => yW c k mix Ha Hb x y R b d K
  | .nj H => xf x y R b H d K
  | _ => none)
 | _ => xf x y R b H d K
noncomputable def Dx (c : Cf P G S) (ow : List (Nat × Ty)) (k : Ky) (Ha : Hn) (x : Rn P G S) (R : Type) (b d : DS P G S) (K : Exit -> Hn -> DS P G S -> Option R) : Option R :=
 match wT b ow d with
 | some d1 =>
  let s := cat b d1
  let b2 := dv k s
  qO c k s s ⟨[], [], d1.nx⟩ fun v0 => cP (fun v => x _ b2 Ha (ef c k s k.nx v) fun e H d' => match e with
   | .normal => qO c k s b2 d' fun v' => some (Sum.inl v')
   | e => (K e H (jy k b d1 d')).map Sum.inr) v0
 | none => none
def Do : Code -> Nat
 | .region _ ops _ => if ops.toList.any fun o => o.guard.isSome then 1 else 0
 | .exit _ | .ret | .skip => 0
 | _ => 2
def KA : Code -> Bool
 | .cond .. => true
 | _ => false
noncomputable def fY (c : Cf P G S) (md : List (Nat × Nat)) (rs : List ResultVar) : Code -> Rn P G S
 | .skip, _, _, H, d, K => K .normal H d
 | .region _ ops draw, _, b, H, d, K => HE c md ops.toList draw b H d fun H d => K .normal H d
 | .cond x t e, _, b, H, d, K => (match evX (cat b d).env x with
  | some (.bl true) => fY c md rs t _ b H d K
  | some (.bl false) => fY c md rs e _ b H d K
  | some (.s .bool v) => (match H with
   | .br Ha Hb => bif v then fY c md rs t _ b Ha d K else fY c md rs e _ b Hb d K
   | _ => none)
  | _ => none)
 | .block id x, _, b, H, d, K => fY c md rs x _ b H d fun e H d => match e with
  | .exit id' => if id' = id then K .normal H d else K (.exit id') H d
  | e => K e H d
 | .exit id, _, _, H, d, K => K (.exit id) H d
 | .ret, _, b, H, d, K => (match qz b (rL (rs.flatMap fun r => match r with
   | .tmp t => (match af (cat b d).env t with
    | some x => eB x
    | none => [])
   | .cell p _ => (match af (cat b d).env p with
    | some (.ref l _) => (match af (cat b d).h l with
     | some (.cells cs) => cs.flatMap eB
     | _ => [])
    | _ => []))) d with
  | some d1 => K .ret H d1
  | none => none)
 | .seq x (.seq c2 rest), R, b, H, d, K => if Do x == 1 && KA c2 then (match H with
   | .jn k mix Ha Hb => yW c k mix Ha Hb (xf (fY c md rs x) (fY c md rs c2)) (fY c md rs rest) R b d K
   | .nj H => xf (fY c md rs x) (xf (fY c md rs c2) (fY c md rs rest)) R b H d K
   | _ => none) else DM c (Do x) (fY c md rs x) (fY c md rs (.seq c2 rest)) R b H d K
 | .seq x y, R, b, H, d, K => DM c (Do x) (fY c md rs x) (fY c md rs y) R b H d K
 | .loop x, R, b, H, d, K => (match H with
  | .lp ow k Ha => Dx c ow k Ha (fY c md rs x) R b d K
  | _ => none)
 | _, _, _, _, _, _ => none
end
end
section
section
variable {P : Program} {G : zGz} {S : Nm} {R : Type}
def CO (M : SX P G S) : Nat -> (ts : List Ty) -> Den P G S (Ty.tup ts) -> List (Nat × X P G S)
 | _, [], _ => []
 | i, [t], x => [(i, (dO M t x).1)]
 | i, t :: u :: ts, x => (i, (dO M t x.1).1) :: CO M (i + 1) (u :: ts) x.2
def pa (M : SX P G S) : Nat -> List Bool -> (ts : List Ty) -> Den P G S (Ty.tup ts) -> List (Nat × X P G S)
 | i, [], ts, x => CO M i ts x
 | i, true :: m, ts, x => (i, .nil) :: pa M (i + 1) m ts x
 | i, false :: m, [t], x => (i, (dO M t x).1) :: pa M (i + 1) m [] ()
 | i, false :: m, t :: u :: ts, x => (i, (dO M t x.1).1) :: pa M (i + 1) m (u :: ts) x.2
 | _, false :: _, [], _ => []
def ul (c : Cf P G S) (d : DS P G S) : List ResultVar -> List (X P G S) -> (List (X P G S) -> Option R) -> Option R
 | [], acc, K => K acc.reverse
 | .tmp t :: r, acc, K => (match af d.env t with
  | some x => ul c d r (x :: acc) K
  | none => none)
 | .cell p ty :: r, acc, K => (match af d.env p with
  | some x => za c.M d.h ty x fun y => ul c d r (y :: acc) K
  | none => none)
def DJ : Ty -> Bool
 | .pair _ .unit => false
 | _ => true
def nn (M : SX P G S) : (ts : List Ty) -> Den P G S (Ty.tup ts) -> Bool
 | [], _ => true
 | [t], x => ig M t x
 | t :: u :: ts, x => ig M t x.1 && nn M (u :: ts) x.2
def Dq : List Bool -> List Ty -> Nat
 | [], ts => ts.length
 | true :: m, ts => Dq m ts + 1
 | false :: m, _ :: ts => Dq m ts + 1
 | false :: _, [] => 0
noncomputable def Az (c : Cf P G S) (md : List (Nat × Nat)) (fn : Func) (rs : List ResultVar) (d0 : DS P G S) (H : Hn) (fin : DS P G S -> Option R) : Option R :=
 match fn.body with
 | some code => fY c md rs code _ ⟨[], [], 0⟩ H d0 fun e _ d => match e with
  | .ret => fin d
  | .normal => fin d
  | _ => none
 | none => none
noncomputable def fF (c : Cf P G S) (md : List (Nat × Nat)) (fn : Func) (m : List Bool) (A : List Ty) (B : Ty) (H : Hn) (a : Den P G S (Ty.tup A)) : Option (Den P G S B) :=
 if nn c.M A a && (DJ B && Nat.ble (Dq m A) c.N) then Az c md fn fn.results.toList ⟨pa c.M 0 m A a, [], 0⟩ H fun d => ul c d fn.results.toList [] fun xs => nD c.M B xs fun v => some v else none
end
end
section
section
variable {P : Program} {G : zGz} {S : Nm} {R : Type} {F : Fr} {N : Nat}
theorem Cn (hF : Env F P G N) {c : Cf P G S} (h0 : F.n0 = c.n0) (hc : c.Ok) (hN : c.N = N) {md : List (Nat × Nat)} {ops : zOz} {b : DS P G S} {Q : zQz} {K : Hn -> DS P G S -> Option R} {r : R} (hk : ∀ H' d', K H' d' = some r -> Q .normal (cat b d').enc) :
  ∀ {l : zOz} {H : Hn} {d : DS P G S}, qV c md ops b l H d K = some r -> SmG F N ops l Q (cat b d).enc := by
 intro l
 induction l with
 | nil => intro H d h; exact SmG.nil (hk _ _ h)
 | cons o rest ih =>
  intro H d h; unfold qV at h; split at h
  ·cases h
  ·rename_i hg; have hg' := mw hg (am (cat b d).h); split at h
   ·rename_i t hd; split at h
    ·rename_i ht; exact SmG.pass hF hd (by rw [<- hN]; exact ht) hg' (ih h)
    ·cases h
   ·rename_i hd; exact yn hF hd hg' (ih h)
  ·rename_i hg; have hg' := mw hg (am (cat b d).h); split at h
   ·rename_i t xo v hs; obtain ⟨s1, s2, s3⟩ := yh hs; split at h
    ·rename_i ht; have ht : Nat.blt t N = true := by rw [<- hN]; exact ht
     split at h
     ·cases v with
      | true => exact SmG.v hF s1 ht hg' (kE s2 (dH s3)) (ih h)
      | false => exact SmG.v hF s1 ht hg' (kE s2 (dH s3)) (ih h)
     ·cases h
    ·cases h
   ·split at h
    ·rename_i d1 hf; split at h
     ·rename_i hg1; have hg1' := mw hg1 (am (cat b d1).h); obtain ⟨f1, f2⟩ := wI (F := F) (N := N) hf; exact kM f1 f2 (KJ hF h0 hc hN hg1' h fun d' hd' => ih hd')
     ·cases h
    ·cases h
theorem vZ {env : List (Nat × X P G S)} {len : Nat -> Nat} (h : wa N env = true) : ey N (dq len env) = true := by
 induction env with
 | nil => rfl
 | cons e r ih =>
  have h' : (Nat.blt e.1 N && wa N r) = true := h; rw [Bool.and_eq_true] at h'; show (decide (e.1 < N) && ey N (dq len r)) = true; rw [ih h'.2]; simpa [Nat.blt_eq] using h'.1
theorem HD (hF : Env F P G N) {c : Cf P G S} (hc : c.Ok) (hN : c.N = N) {md : List (Nat × Nat)} {ops : zOz} {benv : List (Nat × X P G S)} {h0 : List (Nat × B P G S)} {Kv : zEz -> zHz -> Nat -> Prop} {K : Hn -> List (Nat × X P G S) -> List (Nat × B P G S) -> Nat -> Option R} {r : R}
  (hk : ∀ H' env al nx, K H' env al nx = some r -> HdOk h0 al -> Kv (dq (am (al ++ h0)) (env ++ benv)) (jj (am (al ++ h0)) al) nx) :
  ∀ {l : zOz} {H : Hn} {env : List (Nat × X P G S)} {al : List (Nat × B P G S)} {nx : Nat}, qW c md ops benv h0 l H env al nx K = some r -> HdOk h0 al -> au F G N ops.toArray (dz (am h0) h0) l (dq (am (al ++ h0)) (env ++ benv)) (jj (am (al ++ h0)) al) nx Kv := by
 intro l
 induction l with
 | nil => intro H env al nx h hH; exact au.last (hk _ _ _ _ h hH)
 | cons o rest ih =>
  intro H env al nx h hH; unfold qW at h; split at h
  ·cases h
  ·rename_i hg; have hg' := mw hg (am (al ++ h0)); split at h
   ·rename_i t hd; split at h
    ·rename_i ht; exact au.p hF hd (by rw [<- hN]; exact ht) hg' (ih h hH)
    ·cases h
   ·cases h
  ·rename_i hg; have hg' := mw hg (am (al ++ h0)); split at h
   ·rename_i t xo v hs; obtain ⟨s1, s2, s3⟩ := yh hs; split at h
    ·rename_i ht; have ht : Nat.blt t N = true := by rw [<- hN]; exact ht
     split at h
     ·cases v with
      | true => exact au.v hF s1 ht hg' (kE s2 (bu s3)) (ih h hH)
      | false => exact au.v hF s1 ht hg' (kE s2 (bu s3)) (ih h hH)
     ·cases h
    ·cases h
   ·exact KK hF hc hN hg' hH h fun env' al' nx' h' hH' => ih h' hH'
theorem Bj {len : Nat -> Nat} {al h0 : List (Nat × B P G S)} (h : ∀ e ∈ al, e.2.live = true) : dz len (al ++ h0) = jj len al ++ dz len h0 := by
 induction al with
 | nil => rfl
 | cons e r ih =>
  obtain ⟨l, k⟩ := e; have e1 : dz len ((l, k) :: (r ++ h0)) = (l, k.blk len) :: dz len (r ++ h0) := if_pos (h (l, k) (by simp)); show dz len ((l, k) :: (r ++ h0)) = (l, k.blk len) :: (jj len r ++ dz len h0); rw [e1, ih fun e he => h e (by simp [he])]
theorem JS (hF : Env F P G N) {c : Cf P G S} (hn0 : F.n0 = c.n0) (hc : c.Ok) (hN : c.N = N) {md : List (Nat × Nat)} {id : Nat} {ops : Array Oper} {draw : Bool} {b d : DS P G S} {H : Hn} {Q : zQz} {K : Hn -> DS P G S -> Option R} {r : R} (hk : ∀ H' d', K H' d' = some r -> Q .normal (cat b d').enc)
  (h : HE c md ops.toList draw b H d K = some r) : Sm F (.region id ops draw) Q (cat b d).enc := by
 have hops : ops = ops.toList.toArray := by simp
 unfold HE at h; split at h
 ·rename_i hsm; have hs : ey N (cat b d).enc.env = true := vZ (by rw [<- hN]; exact hsm); split at h
  ·rw [hops]; exact ab hF hs (Cn hF hn0 hc hN hk h)
  ·split at h
   ·rename_i n H1; split at h
    ·rename_i hcc; simp only [Bool.and_eq_true] at hcc; obtain ⟨⟨hm, hB⟩, hD⟩ := hcc; rw [hops]; refine eW hF hm hs n (by simpa using hB) (by simpa using hD) ?_; have hh := HD hF hc hN (md := md) (ops := ops.toList) (benv := b.env) (h0 := d.h ++ b.h) (Kv := fun env al nx => ey N env = true /\ SmG F N ops.toList (ops.toList.drop n) Q ⟨env, al ++ (cat b d).enc.h, nx⟩) (fun H' env al nx hK hH => ?_) h (HdOk.nil _)
     ·exact hh
     ·split at hK
      ·rename_i hsm2; refine ⟨vZ (by rw [<- hN]; exact hsm2), ?_⟩; have := Cn hF hn0 hc hN hk hK; have e : (cat b ⟨env, al ++ d.h, nx⟩).enc = ⟨dq (am (al ++ (d.h ++ b.h))) (env ++ b.env), jj (am (al ++ (d.h ++ b.h))) al ++ (cat b d).enc.h, nx⟩ := by
        show (⟨dq (am ((al ++ d.h) ++ b.h)) (env ++ b.env), dz (am ((al ++ d.h) ++ b.h)) ((al ++ d.h) ++ b.h), nx⟩ : St) = _; rw [List.append_assoc, Bj hH.live, hH.same]; rfl
       rw [e] at this; exact this
      ·cases hK
    ·cases h
   ·cases h
 ·cases h
end
end
section
section
variable {P : Program} {G : zGz} {S : Nm} {R : Type} {F : Fr} {N : Nat}
theorem ue {t : Nat} {l : List Nat} : qJ t l = true ↔ t ∈ l := by
 induction l with
 | nil => simp [qJ]
 | cons x r ih =>
  simp only [qJ, Bool.or_eq_true, ih, List.mem_cons]; constructor
  ·rintro (h | h)
   ·exact .inl (Nat.eq_of_beq_eq_true h).symm
   ·exact .inr h
  ·rintro (rfl | h)
   ·exact .inl (Nat.beq_refl _)
   ·exact .inr h
theorem eL {α : Type} {k t : Nat} {x : α} {r : List (Nat × α)} : af ((k, x) :: r) t = if k = t then some x else af r t := by
 simp only [af]; by_cases e : k = t
 ·subst e; rw [Nat.beq_refl, if_pos rfl]
 ·have : Nat.beq k t = false := by cases h : Nat.beq k t with | false => rfl | true => exact absurd (Nat.eq_of_beq_eq_true h) e
  rw [this, if_neg e]
theorem fN {α : Type} (r : List (Nat × α)) (t : Nat) : ∀ ts : List Nat, af (pick r ts) t = if t ∈ ts then af r t else none
 | [] => rfl
 | s :: ts => by
  have ih := fN r t ts; unfold pick; rw [bm, ih]; by_cases e : s = t
  ·subst e; cases h : af r s with
   | none => simp [af]
   | some x =>
    show (af [(s, x)] s).or _ = _; rw [eL, if_pos rfl]; simp
  ·cases h : af r s with
   | none => simp [af, Ne.symm e]
   | some x =>
    show (af [(s, x)] t).or _ = _; rw [eL, if_neg e]; simp [af, Ne.symm e]
theorem vW {x y : X P G S} (h : ti x y = true) : x = y := by
 unfold ti at h; split at h
 ·rw [Nat.eq_of_beq_eq_true h]
 ·rw [Bool.and_eq_true] at h; rw [Nat.eq_of_beq_eq_true h.1, Nat.eq_of_beq_eq_true h.2]
 ·cases h
theorem GV {d s b : DS P G S} : ∀ {ks : List Nat}, yY d s ks = true -> ∀ t ∈ ks, ∀ y, af s.env t = some y -> af b.env t = af s.env t -> af (cat b d).env t = some y := by
 intro ks
 induction ks with
 | nil => intro _ t ht; cases ht
 | cons k ks ih =>
  intro h t ht y hy hb; simp only [yY, Bool.and_eq_true] at h; rcases List.mem_cons.1 ht with rfl | ht
  ·show af (d.env ++ b.env) t = some y; rw [bm]; have h1 := h.1; split at h1
   ·rename_i hn; rw [hn, Option.none_or, hb, hy]
   ·rename_i x hx; rw [hx, Option.some_or]; rw [hy] at h1; rw [vW h1]
  ·exact ih h.2 t ht y hy hb
theorem zY {d s b : DS P G S} : ∀ {ks : List Nat}, yX d ks = true -> ∀ l ∈ ks, af b.h l = af s.h l -> af (cat b d).h l = af s.h l := by
 intro ks
 induction ks with
 | nil => intro _ t ht; cases ht
 | cons k ks ih =>
  intro h l hl hb; simp only [yX, Bool.and_eq_true, Option.isNone_iff_eq_none] at h; rcases List.mem_cons.1 hl with rfl | hl
  ·show af (d.h ++ b.h) l = _; rw [bm, h.1, Option.none_or, hb]
  ·exact ih h.2 l hl hb
theorem GW {env : List (Nat × X P G S)} : ∀ {os : List (Nat × Nat)}, yZ env os = true -> ∀ t x, af (os.map fun e => (e.1, (X.own e.2 : X P G S))) t = some x -> af env t = some x := by
 intro os
 induction os with
 | nil => intro _ t x h; cases h
 | cons e os ih =>
  obtain ⟨k, l⟩ := e; intro h t x hx; simp only [yZ, Bool.and_eq_true] at h; rw [List.map_cons, eL] at hx; split at hx
  ·rename_i e; subst e; cases hx; have h1 := h.1; split at h1
   ·rename_i m hm; rw [hm, Nat.eq_of_beq_eq_true h1]
   ·cases h1
  ·exact ih h.2 t x hx
theorem JW {M : SX P G S} {env : List (Nat × X P G S)} : ∀ {ks : List (Nat × Ty)} {a e : List (X P G S)} {vs : List ((t : Ty) × Den P G S t)}, Dn env ks = some a -> DecsV (a ++ e) vs ->
  a.length = ks.length /\ ∀ t x', af (sI M ks vs) t = some x' -> ∃ x τ v, af env t = some x /\ DecV false τ x v /\ x' = (dO M τ v).1 /\ ⟨τ, v⟩ ∈ vs := by
 intro ks
 induction ks with
 | nil => intro a e vs h _; cases h; exact ⟨rfl, fun t x' h => by cases vs <;> simp [sI, af] at h⟩
 | cons k ks ih =>
  obtain ⟨s, ty⟩ := k; intro a e vs h hd; unfold Dn at h; split at h
  ·rename_i x xs hx hxs; cases h; cases hd with
   | cons h1 h2 =>
    rename_i τ v vs; obtain ⟨i1, i2⟩ := ih hxs h2; refine ⟨by simp [i1], fun t x' hx' => ?_⟩; unfold sI at hx'; rw [eL] at hx'; split at hx'
    ·rename_i e; subst e; cases hx'; exact ⟨x, τ, v, hx, h1, rfl, by simp⟩
    ·obtain ⟨x2, τ2, v2, g1, g2, g3, g4⟩ := i2 t x' hx'; exact ⟨x2, τ2, v2, g1, g2, g3, by simp [g4]⟩
  ·cases h
theorem JX {h : List (Nat × B P G S)} : ∀ {bs : List (Nat × Ty)} {a e : List (X P G S)} {vs : List ((t : Ty) × Den P G S t)}, zZ h bs = some a -> DecsV (a ++ e) vs ->
  a.length = bs.length /\ ∀ l, (∀ b', af (jV bs vs) l = some b' -> af h l = some b' /\ b'.isRM = true) /\ ((bs.any fun e => Nat.beq e.1 l) = true ↔ (af (jV bs vs) l).isSome = true) := by
 intro bs
 induction bs with
 | nil => intro a e vs h _; cases h; exact ⟨rfl, fun l => ⟨fun b' h => by cases vs <;> simp [jV, af] at h, by cases vs <;> simp [jV, af]⟩⟩
 | cons k ks ih =>
  obtain ⟨s, ty⟩ := k; intro a e vs hk hd; have core : ∀ {σ : Ty} {xs : Den P G S (.lst σ)} {ys : List (X P G S)} {bb : B P G S}, a = .s (.lst σ) xs :: ys -> zZ h ks = some ys -> af h s = some bb -> bb.isRM = true -> (∀ vs, jV ((s, ty) :: ks) ((⟨.lst σ, xs⟩ : (t : Ty) × Den P G S t) :: vs) = (s, bb) :: jV ks vs) ->
    a.length = ((s, ty) :: ks).length /\ ∀ l, (∀ b', af (jV ((s, ty) :: ks) vs) l = some b' -> af h l = some b' /\ b'.isRM = true) /\ ((((s, ty) :: ks).any fun e => Nat.beq e.1 l) = true ↔ (af (jV ((s, ty) :: ks) vs) l).isSome = true) := by
   intro σ xs ys bb ha hxs hx hrm e1; subst ha; cases hd with
   | cons h1 h2 =>
    rename_i t v vs; obtain ⟨i1, i2⟩ := ih hxs h2; obtain ⟨e0, hv⟩ := il (h1.l σ xs rfl); subst e0; subst hv; refine ⟨by simp [i1], fun l => ?_⟩; obtain ⟨j1, j2⟩ := i2 l; have e1 := e1 vs; constructor
    ·intro b' hb'; have hb2 : af ((s, bb) :: jV ks vs) l = some b' := by rw [<- e1]; exact hb'
     clear hb'; rw [eL] at hb2; split at hb2
     ·rename_i e; subst e; cases hb2; exact ⟨hx, hrm⟩
     ·exact j1 b' hb2
    ·show ((s, ty) :: ks).any _ = true ↔ (af (jV ((s, ty) :: ks) ((⟨.lst σ, xs⟩ : (t : Ty) × Den P G S t) :: vs)) l).isSome = true; rw [e1, eL, List.any_cons, Bool.or_eq_true]; by_cases e : s = l
     ·subst e; simp
     ·rw [if_neg e, <- j2]; constructor
      ·rintro (h | h)
       ·exact absurd (Nat.eq_of_beq_eq_true h) e
       ·exact h
      ·exact .inr
  unfold zZ at hk; split at hk
  ·rename_i τ xs ys hx hxs; split at hk
   ·cases hk
   ·rename_i hp; cases hk; refine core rfl hxs hx rfl fun vs => ?_
    cases τ with
    | pair => exact absurd rfl hp
    | _ => rfl
  ·rename_i ka vb xs ys hx hxs; cases hk; exact core rfl hxs hx rfl fun vs => rfl
  ·cases hk
inductive CellK : List (X P G S) -> List (X P G S) -> Prop
 | nil : CellK [] []
 | s {x : X P G S} {t : Ty} {v : Den P G S t} {xs ys : List (X P G S)} : x.one = true -> DecV false t x v -> CellK xs ys -> CellK (x :: xs) (.s t v :: ys)
 | k {x : X P G S} {xs ys : List (X P G S)} : CellK xs ys -> CellK (x :: xs) (x :: ys)
theorem HV : ∀ {ts : List (Option Ty)} {xs ys a e : List (X P G S)} {vs : List ((t : Ty) × Den P G S t)}, sX ts xs ys = some a -> DecsV (a ++ e) vs -> CellK xs (vY ts ys vs) /\ a.length = (ts.filterMap id).length := by
 intro ts
 induction ts with
 | nil =>
  intro xs ys a e vs h _; unfold sX at h; split at h <;> first | (cases h; done) | skip
  ·cases h; exact ⟨by cases vs <;> exact .nil, rfl⟩
  all_goals simp_all
 | cons o ts ih =>
  intro xs ys a e vs h hd; unfold sX at h; split at h
  ·simp_all
  ·rename_i o' ts' x xs y ys e1; cases e1; split at h
   ·rename_i h1; simp only [Option.map_eq_some_iff] at h; obtain ⟨q, hq, rfl⟩ := h; cases hd with
    | cons g1 g2 =>
     obtain ⟨i1, i2⟩ := ih hq g2; exact ⟨.s h1 g1 i1, by simp [i2]⟩
   ·cases h
  ·rename_i ts' x xs y ys e1; cases e1; split at h
   ·rename_i h1; obtain rfl := vW h1; obtain ⟨i1, i2⟩ := ih h hd; exact ⟨.k i1, by simp [i2]⟩
   ·cases h
  ·cases h
theorem JV {h h0 : List (Nat × B P G S)} : ∀ {cs : List (Nat × List (Option Ty))} {a e : List (X P G S)} {vs : List ((t : Ty) × Den P G S t)}, Dm h h0 cs = some a -> DecsV (a ++ e) vs ->
  ∀ l b', af (uq h0 cs vs) l = some b' -> ∃ xs ys, af h l = some (.cells xs) /\ b' = .cells ys /\ CellK xs ys := by
 intro cs
 induction cs with
 | nil => intro a e vs _ _ l b' hb; cases hb
 | cons k cs ih =>
  obtain ⟨s, ts⟩ := k; intro a e vs hk hd l b' hb; unfold Dm at hk; split at hk
  ·rename_i xs ys zs hx hy hz; simp only [Option.map_eq_some_iff] at hk; obtain ⟨q, hq, rfl⟩ := hk; rw [List.append_assoc] at hd; obtain ⟨c1, c2⟩ := HV hq hd; unfold uq at hb; rw [hy] at hb; have hb2 : af ((s, B.cells (vY ts ys vs)) :: uq h0 cs (vs.drop (ts.filterMap id).length)) l = some b' := hb; clear hb; rw [eL] at hb2; split at hb2
   ·rename_i e1; subst e1; cases hb2; exact ⟨xs, _, hx, rfl, c1⟩
   ·have hd2 := hd.drop (ts.filterMap id).length; rw [<- c2, List.drop_left] at hd2; rw [<- c2] at hb2; exact ih hz hd2 l b' hb2
  ·cases hk
theorem BQ {x : X P G S} {len len' : Nat -> Nat} (h : ∀ l ∈ wS x, len' l = len l) : x.cap len' = x.cap len := by
 cases x with
 | own l => show Cap.s l (len' l) = Cap.s l (len l); rw [h l (by simp [wS])]
 | _ => rfl
theorem rI {cs : List (X P G S)} {len len' : Nat -> Nat} (h : ∀ l ∈ cs.flatMap wS, len' l = len l) : eX len' cs = eX len cs :=
 List.map_congr_left fun x hx => BQ fun l hl => h l (List.mem_flatMap.2 ⟨x, hx, hl⟩)
theorem xC : ∀ {cs : List (X P G S)} {len len' : Nat -> Nat}, (∀ l ∈ cs.flatMap wS, len' l = len l) -> eY len' cs = eY len cs
 | [], _, _, _ => rfl
 | x :: r, len, len', h => by
  have ih := xC (cs := r) (len := len) (len' := len') fun l hl => h l (by rw [List.flatMap_cons]; exact List.mem_append_right _ hl)
  have hx := BQ (x := x) (len := len) (len' := len') fun l hl => h l (by rw [List.flatMap_cons]; exact List.mem_append_left _ hl)
  show (if x.isD then x.c.map Cap.d else [x.cap len']) ++ eY len' r = (if x.isD then x.c.map Cap.d else [x.cap len]) ++ eY len r; rw [ih, hx]
theorem Em {x : X P G S} {len len' : Nat -> Nat} (h : ∀ l ∈ eB x, len' l = len l) : x.VP len' = x.VP len := by
 cases x with
 | agg cs => show (if _ then V.agr false (eY len' cs) else .any) = if _ then V.agr false (eY len cs) else .any; rw [xC h]
 | tup cs => show (if _ then V.agr true (eX len' cs) else .any) = if _ then V.agr true (eX len cs) else .any; rw [rI h]
 | fn f cs => show (if _ then V.clo f [] (eX len' cs) else .any) = if _ then V.clo f [] (eX len cs) else .any; rw [rI h]
 | mth f cs => show (if _ then V.clo f (eX len' cs) [] else .any) = if _ then V.clo f (eX len cs) [] else .any; rw [rI h]
 | _ => rfl
theorem Is {x : X P G S} {len len' : Nat -> Nat} (h : ∀ l ∈ eB x, len' l = len l) : x.V len' = x.V len := by
 unfold X.V; split
 ·rw [h _ (by simp [eB])]
 ·rfl
 ·rfl
 ·rfl
 ·split
  ·rw [h _ (by simp [eB, wS])]
  ·exact Em h
 ·split
  ·rfl
  ·exact Em h
theorem En {x : X P G S} {len len' : Nat -> Nat} (h : ∀ l ∈ eB x, len' l = len l) : x.Vs len' = x.Vs len := by
 unfold X.Vs; rw [Is h]
theorem LeL.cells {xs ys : List D} (h : LeL xs ys) : CellsR (xs.map V.d) (ys.map V.d) := by
 induction h with
 | nil => exact .nil
 | cons h1 _ ih => exact .cons (V.le.d h1) ih
theorem CellK.rel {len len' : Nat -> Nat} {xs ys : List (X P G S)} (h : CellK xs ys) (hl : ∀ y ∈ ys, ∀ l ∈ eB y, len' l = len l) : CellsR (vsX len xs) (vsX len' ys) := by
 have app : ∀ {a b c d : List V}, CellsR a b -> CellsR c d -> CellsR (a ++ c) (b ++ d) := by
  intro a b c d h1 h2
  induction h1 with
  | nil => exact h2
  | cons h _ ih => exact .cons h ih
 induction h with
 | nil => exact .nil
 | @s x t v xs ys h1 h2 _ ih =>
  refine app ?_ (ih fun y hy => hl y (by simp [hy])); show CellsR (x.Vs len) ((X.s t v).Vs len'); rw [uG h2.d, uG (x := .s t v) rfl]; exact (h2.c h1).cells
 | @k x xs ys _ ih =>
  refine app ?_ (ih fun y hy => hl y (by simp [hy])); show CellsR (x.Vs len) (x.Vs len'); rw [En (hl x (by simp))]; exact CellsR.refl _
theorem Jj {b : DS P G S} : ∀ {ls : List Nat} {d d' : DS P G S}, qz b ls d = some d' -> d'.nx = d.nx := by
 intro ls
 induction ls with
 | nil => intro d d' h; cases h; rfl
 | cons l ls ih =>
  intro d d' h; unfold qz at h; split at h
  ·exact ih h
  ·split at h
   ·rename_i d1 h1; rw [ih h]; unfold ng at h1; split at h1
    ·cases h1; rfl
    ·split at h1
     ·cases h1; rfl
     ·cases h1
    ·cases h1
   ·cases h
theorem Fi {α : Type} : ∀ {r : List (Nat × α)} {t : Nat} {x : α}, look r t = some x -> (t, x) ∈ r := by
 intro r t x h; rw [<- aL] at h; exact js h
theorem ED {n : Nat} {x : X P G S} (h : mL n x = true) (len : Nat -> Nat) : (x.cap len).lt n = true := by
 cases x with
 | own | ref | mp => simpa [mL, X.cap, Cap.lt, Nat.blt_eq] using h
 | _ => rfl
theorem tS {n : Nat} {cs : List (X P G S)} (h : cs.all (mL n) = true) (len : Nat -> Nat) : (eX len cs).all (Cap.lt n) = true := by
 rw [List.all_eq_true] at h ⊢; intro c hc; obtain ⟨x, hx, rfl⟩ := List.mem_map.1 hc; exact ED (h x hx) len
theorem Gx {n : Nat} {cs : List (X P G S)} (h : cs.all (mL n) = true) (len : Nat -> Nat) : (eY len cs).all (Cap.lt n) = true := by
 rw [List.all_eq_true] at h ⊢; intro c hc; obtain ⟨x, hx, hc⟩ := List.mem_flatMap.1 hc; split at hc
 ·obtain ⟨d, _, rfl⟩ := List.mem_map.1 hc; rfl
 ·rw [List.mem_singleton] at hc; subst hc; exact ED (h x hx) len
theorem Ce {n : Nat} {x : X P G S} (h : ltX n x = true) (len : Nat -> Nat) : V.lt n (x.VP len) = true := by
 unfold X.VP; split
 ·split
  ·exact Gx h len
  ·rfl
 ·split
  ·exact tS h len
  ·rfl
 ·split
  ·show (true && _) = true; rw [tS h len]; rfl
  ·rfl
 ·split
  ·show (_ && true) = true; rw [tS h len]; rfl
  ·rfl
 ·rfl
theorem Fj {n : Nat} {x : X P G S} (h : ltX n x = true) (len : Nat -> Nat) : V.lt n (x.V len) = true := by
 unfold X.V; split
 ·exact by simpa [ltX, mL, V.lt, Nat.blt_eq] using h
 ·exact by simpa [ltX, mL, V.lt, Nat.blt_eq] using h
 ·exact by simpa [ltX, mL, V.lt, Nat.blt_eq] using h
 ·exact by simpa [ltX, mL, V.lt, Nat.blt_eq] using h
 ·split
  ·have h : (mL n _ && _) = true := h; rw [Bool.and_eq_true] at h; exact by simpa [mL, V.lt, Nat.blt_eq] using h.1
  ·exact Ce h len
 ·split
  ·rfl
  ·exact Ce h len
theorem KF {n : Nat} {x : X P G S} (h : ltX n x = true) (len : Nat -> Nat) : ∀ y ∈ x.Vs len, V.lt n y = true := by
 intro y hy; unfold X.Vs at hy; split at hy
 ·obtain ⟨z, _, rfl⟩ := List.mem_map.1 hy; rfl
 ·rw [List.mem_singleton] at hy; subst hy; exact Fj h len
theorem KE {n : Nat} {d : DS P G S} (h : ltD n d = true) (hn : F.n0 <= n) : St.to F d.enc ⟨d.enc.env, d.enc.h, n⟩ := by
 unfold ltD at h; simp only [Bool.and_eq_true, List.all_eq_true] at h; obtain ⟨hE, hH⟩ := h; have memH : ∀ {l : List (Nat × B P G S)} {len : Nat -> Nat} {e : Nat × Blk}, e ∈ dz len l -> ∃ q ∈ l, q.1 = e.1 /\ e.2 = q.2.blk len := by
  intro l len
  induction l with
  | nil => intro e he; cases he
  | cons q r ih =>
   intro e he; obtain ⟨m, b⟩ := q; simp only [dz] at he; split at he
   ·rcases List.mem_cons.1 he with rfl | he
    ·exact ⟨(m, b), by simp, rfl, rfl⟩
    ·obtain ⟨q, g1, g2⟩ := ih he; exact ⟨q, by simp [g1], g2⟩
   ·obtain ⟨q, g1, g2⟩ := ih (List.mem_filter.1 he).1; exact ⟨q, by simp [g1], g2⟩
 refine mR n ?_ ?_ ?_ hn
 ·rw [List.all_eq_true]; intro e he; obtain ⟨q, g1, rfl⟩ := List.mem_map.1 he; exact Fj (hE q g1) _
 ·intro l k _ hk r hr x hx; obtain ⟨q, g1, _, g3⟩ := memH (Fi hk); have hq := (hH q g1).2; obtain ⟨m, b⟩ := q; dsimp only at g3 hq; subst g3; cases b with
  | row t xs =>
   obtain ⟨z, _, rfl⟩ := List.mem_map.1 hr; obtain ⟨y, _, rfl⟩ := List.mem_map.1 hx; rfl
  | cells cs =>
   dsimp only at hq; rw [List.all_eq_true] at hq; have : r = cs.flatMap (X.Vs _) := List.mem_singleton.1 hr; subst this; obtain ⟨y, h1, h2⟩ := List.mem_flatMap.1 hx; exact KF (hq y h1) _ x h2
  | mp =>
   rw [List.mem_singleton.1 hr, List.mem_singleton] at hx; subst hx; rfl
  | gone => cases hr
 ·rw [List.all_eq_true]; intro e he; obtain ⟨q, g1, g2, _⟩ := memH he; rw [<- g2]; exact (hH q g1).1
theorem qP {c : Cf P G S} (h0 : F.n0 = c.n0) (hc : c.Ok) {k : Ky} {s b d : DS P G S} {K : Den P G S (Ty.tup k.tys) -> Option R} {r : R} (hb : ∀ t ∈ k.keep, af b.env t = af s.env t) (hbh : ∀ l ∈ k.kb, af b.h l = af s.h l) (h : qO c k s b d K = some r) :
  ∃ v, K v = some r /\ St.to F (cat b d).enc (cat (dv k s) (ef c k s k.nx v)).enc := by
 suffices hs : c.n0 <= k.nx /\ ∃ v, K v = some r /\ ltD k.nx (cat (dv k s) (ef c k s 0 v)) = true /\ ∀ nx, d.nx <= nx -> St.to F (cat b d).enc (cat (dv k s) (ef c k s nx v)).enc by
  obtain ⟨hle, v, h1, h2, h3⟩ := hs; exact ⟨v, h1, aR (h3 _ (Nat.le_refl _)) (KE (d := cat (dv k s) (ef c k s d.nx v)) h2 (by rw [h0]; exact hle))⟩
 unfold qO at h; split at h
 ·rename_i d1 hd1; split at h
  ·rename_i hkept; simp only [Bool.and_eq_true] at hkept; obtain ⟨⟨⟨hle, hkE⟩, hkB⟩, hkO⟩ := hkept; refine ⟨Nat.le_of_ble_eq_true hle, ?_⟩; split at h
   ·rename_i a e f hA hE hC; obtain ⟨v, h1, hdec⟩ := tA hc.M _ _ _ _ h; split at h1
    ·rename_i hok; refine ⟨v, h1, ?_, fun nx hnx => aR (wI (N := 0) hd1).1 ?_⟩
     ·unfold DY at hok; simp only [Bool.and_eq_true] at hok; exact hok.1.1.1
     rw [List.append_assoc] at hdec; obtain ⟨lA, sE⟩ := JW (M := c.M) hA hdec; have hdec2 := hdec.drop k.ks.length; rw [<- lA, List.drop_left] at hdec2; obtain ⟨lR, sR⟩ := JX hE hdec2; have hdec3 := hdec2.drop e.length; rw [List.drop_left, List.drop_drop] at hdec3; have hdec3' : DecsV (f ++ []) ((jB k.tys v).drop (k.ks.length + k.bs.length)) := by rw [List.append_nil, <- lA, <- lR]; exact hdec3
     have sC := JV hC hdec3'; rw [lA] at sR; have tE : ∀ t, af (cat (dv k s) (ef c k s nx v)).env t = ((af (sI c.M k.ks (jB k.tys v)) t).or (af (k.os.map fun e => (e.1, (X.own e.2 : X P G S))) t)).or (if t ∈ k.keep then af s.env t else none) := by
      intro t; show af ((sI c.M k.ks _ ++ _) ++ pick s.env k.keep) t = _; rw [bm, bm, fN]
     have tH : ∀ l, af (cat (dv k s) (ef c k s nx v)).h l = ((af (jV k.bs ((jB k.tys v).drop k.ks.length)) l).or (af (uq s.h k.cs ((jB k.tys v).drop (k.ks.length + k.bs.length))) l)).or (if l ∈ k.kb then af s.h l else none) := by
      intro l; show af ((jV k.bs _ ++ _) ++ pick s.h k.kb) l = _; rw [bm, bm, fN]
     unfold DY at hok; simp only [Bool.and_eq_true, List.all_eq_true] at hok; obtain ⟨⟨⟨_, okS⟩, okE⟩, okH⟩ := hok; have rel : ∀ l b', af (cat (dv k s) (ef c k s nx v)).h l = some b' -> ∃ b0, af (cat b d1).h l = some b0 /\ (b' = b0 \/ ∃ xs ys, b0 = .cells xs /\ b' = .cells ys /\ CellK xs ys) := by
      intro l b' hl; rw [tH] at hl; obtain ⟨r1, _⟩ := sR l; cases hR : af (jV k.bs ((jB k.tys v).drop k.ks.length)) l with
      | some q => rw [hR] at hl; cases hl; exact ⟨_, (r1 _ hR).1, .inl rfl⟩
      | none =>
       rw [hR, Option.none_or] at hl; cases hCl : af (uq s.h k.cs ((jB k.tys v).drop (k.ks.length + k.bs.length))) l with
       | some q =>
        rw [hCl] at hl; cases hl; obtain ⟨xs, ys, g1, g2, g3⟩ := sC l _ hCl; exact ⟨_, g1, .inr ⟨xs, ys, rfl, g2, g3⟩⟩
       | none =>
        rw [hCl, Option.none_or] at hl; split at hl
        ·rename_i hm; exact ⟨b', by rw [zY hkB l hm (hbh l hm)]; exact hl, .inl rfl⟩
        ·cases hl
     have lens : ∀ l, nmK k l = true -> am (cat (dv k s) (ef c k s nx v)).h l = am (cat b d1).h l := by
      intro l hl; cases hT : af (cat (dv k s) (ef c k s nx v)).h l with
      | some b' =>
       obtain ⟨b0, g1, g2⟩ := rel l b' hT; unfold am; rw [hT, g1]; rcases g2 with rfl | ⟨xs, ys, rfl, rfl, _⟩ <;> rfl
      | none =>
       rw [tH] at hT; obtain ⟨_, r2⟩ := sR l; simp only [nmK, Bool.or_eq_true] at hl; rcases hl with hl | hl
       ·have hl := ue.1 hl; rw [if_pos hl] at hT; have h3 : af s.h l = none := by
         cases h3 : af s.h l with
         | none => rfl
         | some q => rw [h3] at hT; simp at hT
        have h4 := zY hkB l hl (hbh l hl); unfold am; rw [tH, if_pos hl, hT, h4, h3]
       ·have := r2.1 hl; obtain ⟨q, hq⟩ := Option.isSome_iff_exists.1 this; rw [hq] at hT; simp at hT
     have ia : ∀ {α : Type} {r : List (Nat × α)} {t : Nat} {x : α}, af r t = some x -> (t, x) ∈ r := fun h => js h
     refine jH ?_ ?_ (by show d1.nx <= nx; rw [Jj hd1]; exact hnx)
     ·intro t y hy; rw [bN] at hy; simp only [Option.map_eq_some_iff] at hy; obtain ⟨x', hx', rfl⟩ := hy; have hown : ∀ l ∈ eB x', am (cat (dv k s) (ef c k s nx v)).h l = am (cat b d1).h l := by
       intro l hl; have hm : (t, x') ∈ (cat (dv k s) (ef c k s 0 v)).env := js hx'; exact lens l (okE _ hm l hl)
      rw [Is hown]; have src : ∀ {x : X P G S}, af (cat b d1).env t = some x -> look (cat b d1).enc.env t = some (x.V (am (cat b d1).h)) := by
       intro x hx; rw [bN, hx]; rfl
      rw [tE] at hx'; cases h1 : af (sI c.M k.ks (jB k.tys v)) t with
      | some q =>
       rw [h1] at hx'; cases hx'; obtain ⟨x, τ, w, g1, g2, g3, g4⟩ := sE t _ h1; subst g3; refine ⟨_, src g1, ?_⟩; obtain ⟨s1, s2, _, _⟩ := kK hc.M τ w (okS _ g4); rw [ci g2.d, ci s1, s2]; exact V.le.d g2.o
      | none =>
       rw [h1, Option.none_or] at hx'; cases h2 : af (k.os.map fun e => (e.1, (X.own e.2 : X P G S))) t with
       | some q =>
        rw [h2] at hx'; cases hx'; exact ⟨_, src (GW hkO t _ h2), V.le.refl _⟩
       | none =>
        rw [h2, Option.none_or] at hx'; split at hx'
        ·rename_i hm; exact ⟨_, src (GV hkE t hm x' hx' (hb t hm)), V.le.refl _⟩
        ·cases hx'
     ·intro l k' hk'; rw [ca] at hk'; simp only [Option.bind_eq_some_iff] at hk'; obtain ⟨b', hb', hk'⟩ := hk'; split at hk'
      ·rename_i hlive; cases hk'; obtain ⟨b0, g1, g2⟩ := rel l b' hb'; have hl0 : b0.live = true := by rcases g2 with rfl | ⟨xs, ys, rfl, rfl, _⟩ <;> first | exact hlive | rfl
       refine ⟨b0.blk (am (cat b d1).h), by rw [ca, g1]; simp [hl0], ?_⟩; have hm : (l, b') ∈ (cat (dv k s) (ef c k s 0 v)).h := js hb'; have hokl := okH _ hm; cases b' with
       | row t xs => rcases g2 with rfl | ⟨xs, ys, _, e2, _⟩
                     ·exact fJ.refl _
                     ·cases e2
       | mp => rcases g2 with rfl | ⟨xs, ys, _, e2, _⟩
               ·exact fJ.refl _
               ·cases e2
       | gone => cases hlive
       | cells ys =>
        dsimp only at hokl; simp only [Bool.and_eq_true, List.all_eq_true] at hokl; obtain ⟨⟨fv, on⟩, w⟩ := hokl; have hown : ∀ y ∈ ys, ∀ l ∈ eB y, am (cat (dv k s) (ef c k s nx v)).h l = am (cat b d1).h l := fun y hy l hl => lens l (on y hy l hl)
        rcases g2 with rfl | ⟨xs, ys', rfl, e2, g3⟩
        ·refine ⟨rfl, ?_, by rw [iq, iq]⟩; show RowsR [vsX _ ys] [vsX _ ys]; have : vsX (am (cat (dv k s) (ef c k s nx v)).h) ys = vsX (am (cat b d1).h) ys := by
          clear fv w g1 hm hb' hlive hl0
          induction ys with
          | nil => rfl
          | cons y r ih =>
           show X.Vs _ y ++ vsX _ r = X.Vs _ y ++ vsX _ r; rw [En (hown y (by simp)), ih (fun z hz => on z (by simp [hz])) (fun z hz => hown z (by simp [hz]))]
         rw [this]; exact RowsR.refl _
        ·cases e2; rw [g1] at w; dsimp only at w; rw [Bool.and_eq_true, beq_iff_eq] at w; exact ⟨w.1, .cons (g3.rel hown) .nil, by rw [iq, iq]; rfl⟩
      ·cases hk'
    ·cases h1
   ·cases h
  ·cases h
 ·cases h
end
end
section
section
variable {P : Program} {G : zGz} {S : Nm} {R : Type} {F : Fr} {N : Nat}
def Clo (F : Fr) (Q : zQz) : Prop := ∀ e st st', St.to F st st' -> Q e st' -> Q e st
theorem Clo.sm {Q : zQz} {c : Code} (h : Clo F Q) : Clo F (ba (Sm F c Q) Q) := by
 intro e st st' ht hq; cases e <;> first | exact Sm.to ht hq | exact h _ _ _ ht hq
theorem Clo.block {Q : zQz} {id : Nat} (h : Clo F Q) : Clo F (bR id Q) := by
 intro e st st' ht hq; cases e with
 | exit id' =>
  show if id' = id then Q .normal st else Q (.exit id') st
  have hq : if id' = id then Q .normal st' else Q (.exit id') st' := hq
  split
  ·rename_i e; rw [if_pos e] at hq; exact h _ _ _ ht hq
  ·rename_i e; rw [if_neg e] at hq; exact h _ _ _ ht hq
 | _ => exact h _ _ _ ht hq
theorem Clo.next {Q : zQz} {K : St -> Prop} (hK : ∀ st st', St.to F st st' -> K st' -> K st) (h : Clo F Q) : Clo F (ba K Q) := by
 intro e st st' ht hq; cases e <;> first | exact hK _ _ ht hq | exact h _ _ _ ht hq
def cloQ (F : Fr) (Q : zQz) (e : Exit) (st : St) : Prop := ∃ st', St.to F st st' /\ Q e st'
theorem Gz {Q : zQz} : Clo F (cloQ F Q) := fun _ _ _ ht ⟨s, h1, h2⟩ => ⟨s, aR ht h1, h2⟩
theorem Sm.cloQ {Q : zQz} {c : Code} {st : St} (h : Sm F c (cloQ F Q) st) : Sm F c Q st := by
 intro μ C a w hs b k cs hro hb hr; obtain ⟨e, a', w', ⟨st1, μ1, C1, ⟨st2, ht, hq⟩, hs1⟩, harr⟩ := h μ C a w hs b k cs hro hb hr; obtain ⟨μ2, C2, hs2⟩ := ht μ1 C1 a' w' hs1; exact ⟨e, a', w', ⟨st2, μ2, C2, hq, hs2⟩, harr⟩
def Okn (F : Fr) (x : Rn P G S) (c : Code) : Prop := ∀ (R : Type) (b : DS P G S) (H : Hn) (d : DS P G S) (K : Exit -> Hn -> DS P G S -> Option R) (r : R) (Q : zQz), Clo F Q -> (∀ e H' d', K e H' d' = some r -> Q e (cat b d').enc) -> x R b H d K = some r -> Sm F c Q (cat b d).enc
theorem tj {x y : Rn P G S} {cx cy : Code} (hx : Okn F x cx) (hy : Okn F y cy) : Okn F (xf x y) (.seq cx cy) := by
 intro R b H d K r Q hq hk h; refine Sm.seq (hx R b H d _ r _ hq.sm (fun e H' d' hK => ?_) h); cases e <;> first | exact hy R b _ _ K r Q hq hk hK | exact hk _ _ _ hK
theorem qH {α : Type} (z : α) (keep : List Nat) (t : Nat) : ∀ r : List (Nat × α), af (qD z keep r) t = if t ∈ keep then none else (af r t).map fun _ => z
 | [] => by simp [qD, af]
 | (s, x) :: r => by
  have ih := qH z keep t r; unfold qD; by_cases e : qJ s keep = true
  ·rw [if_pos e, ih]; have hm := ue.1 e; by_cases ht : t ∈ keep
   ·rw [if_pos ht, if_pos ht]
   ·rw [if_neg ht, if_neg ht, eL, if_neg (by rintro rfl; exact ht hm)]
  ·rw [if_neg e, eL, eL, ih]; by_cases hs : s = t
   ·subst hs; rw [if_pos rfl, if_pos rfl, if_neg (by rw [<- ue]; exact e)]; rfl
   ·rw [if_neg hs, if_neg hs]
theorem xX (k : Ky) (b d d' : DS P G S) : St.to F (cat (dv k (cat b d)) d').enc (cat b (jy k b d d')).enc := by
 have hE : ∀ t, af (cat b (jy k b d d')).env t = (af d'.env t).or (if t ∈ k.keep then af (cat b d).env t else (af b.env t).map fun _ => .any) := by
  intro t; show af ((d'.env ++ (pick d.env k.keep ++ qD .any k.keep b.env)) ++ b.env) t = _; rw [bm, bm, bm, fN, qH]; show _ = (af d'.env t).or (if t ∈ k.keep then af (d.env ++ b.env) t else _); rw [bm]; by_cases ht : t ∈ k.keep
  ·simp only [if_pos ht, Option.or_none]; rw [Option.or_assoc]
  ·simp only [if_neg ht, Option.none_or]; rw [Option.or_assoc]; cases af b.env t <;> rfl
 have hH : ∀ l, af (cat b (jy k b d d')).h l = (af d'.h l).or (if l ∈ k.kb then af (cat b d).h l else (af b.h l).map fun _ => .gone) := by
  intro t; show af ((d'.h ++ (pick d.h k.kb ++ qD .gone k.kb b.h)) ++ b.h) t = _; rw [bm, bm, bm, fN, qH]; show _ = (af d'.h t).or (if t ∈ k.kb then af (d.h ++ b.h) t else _); rw [bm]; by_cases ht : t ∈ k.kb
  ·simp only [if_pos ht, Option.or_none]; rw [Option.or_assoc]
  ·simp only [if_neg ht, Option.none_or]; rw [Option.or_assoc]; cases af b.h t <;> rfl
 have sE : ∀ t, af (cat (dv k (cat b d)) d').env t = (af d'.env t).or (if t ∈ k.keep then af (cat b d).env t else none) := by
  intro t; show af (d'.env ++ pick (cat b d).env k.keep) t = _; rw [bm, fN]
 have sH : ∀ t, af (cat (dv k (cat b d)) d').h t = (af d'.h t).or (if t ∈ k.kb then af (cat b d).h t else none) := by
  intro t; show af (d'.h ++ pick (cat b d).h k.kb) t = _; rw [bm, fN]
 have hl : am (cat b (jy k b d d')).h = am (cat (dv k (cat b d)) d').h := by
  funext l
  unfold am; rw [hH, sH]; cases af d'.h l with
  | some q => rfl
  | none =>
   by_cases ht : l ∈ k.kb
   ·simp only [if_pos ht]
   ·simp only [if_neg ht, Option.none_or]; cases af b.h l <;> rfl
 have e1 : ∀ (st st' : St), st = st' -> st.nx <= st'.nx := fun _ _ h => by rw [h]; exact Nat.le_refl _
 generalize hA : (cat (dv k (cat b d)) d') = s1 at *; generalize hB : (cat b (jy k b d d')) = s2 at *; have hnx : s1.nx = s2.nx := by rw [<- hA, <- hB]; rfl
 refine uF (env := s1.enc.env) (h := s1.enc.h) (nx := s1.nx) (env' := s2.enc.env) (h' := s2.enc.h) (nx' := s2.nx) ?_ ?_ (Nat.le_of_eq hnx)
 ·intro t y hy; rw [bN, hE, hl] at hy; cases hd : af d'.env t with
  | some x =>
   rw [hd] at hy; refine .inr ⟨y, ?_, V.le.refl _⟩; rw [bN, sE, hd]; exact hy
  | none =>
   rw [hd, Option.none_or] at hy; split at hy
   ·rename_i ht; refine .inr ⟨y, ?_, V.le.refl _⟩; rw [bN, sE, hd, Option.none_or, if_pos ht]; exact hy
   ·left; cases hb : af b.env t with
    | none => rw [hb] at hy; cases hy
    | some x => rw [hb] at hy; cases hy; rfl
 ·intro l k' hk; refine ⟨k', ?_, fJ.refl _⟩; rw [ca, hH, hl] at hk; rw [ca, sH]; cases hd : af d'.h l with
  | some x => rw [hd] at hk; exact hk
  | none =>
   rw [hd, Option.none_or] at hk; rw [Option.none_or]; split at hk
   ·rename_i ht; rw [if_pos ht]; exact hk
   ·cases hb : af b.h l with
    | none => rw [hb] at hk; cases hk
    | some x => rw [hb] at hk; cases hk
theorem zX {c : Cf P G S} (h0 : F.n0 = c.n0) (hc : c.Ok) {k : Ky} {mix : Bool} {Ha Hb : Hn} {x y : Rn P G S} {cz cy : Code} {Q : zQz} (hx : ∀ (R : Type) (b : DS P G S) (H : Hn) (d : DS P G S) (K : Exit -> Hn -> DS P G S -> Option R) (r : R), (∀ e H' d', K e H' d' = some r -> ba (Sm F cy Q) Q e (cat b d').enc) -> x R b H d K = some r -> Sm F cz Q (cat b d).enc) (hy : Okn F y cy) {b d : DS P G S} {K : Exit -> Hn -> DS P G S -> Option R} {r : R} (hq : Clo F Q) (hk : ∀ e H' d', K e H' d' = some r -> Q e (cat b d').enc)
  (h : yW c k mix Ha Hb x y R b d K = some r) : Sm F cz Q (cat b d).enc := by
 have hk2 : ∀ e H' d', K e H' (jy k b d d') = some r -> Q e (cat (dv k (cat b d)) d').enc := fun e H' d' hK => hq _ _ _ (xX k b d d') (hk _ _ _ hK)
 have hcat : ∀ d' : DS P G S, cat (cat b d) d' = cat b ⟨d'.env ++ d.env, d'.h ++ d.h, d'.nx⟩ := fun d' => by
  show (⟨d'.env ++ (d.env ++ b.env), d'.h ++ (d.h ++ b.h), d'.nx⟩ : DS P G S) = ⟨(d'.env ++ d.env) ++ b.env, (d'.h ++ d.h) ++ b.h, d'.nx⟩
  rw [List.append_assoc, List.append_assoc]
 have hnil : cat (cat b d) ⟨[], [], d.nx⟩ = cat b d := rfl; unfold yW at h; dsimp only at h; split at h
 ·obtain ⟨v, h1, h2⟩ := ap h; have hS := hy R _ _ _ _ r Q hq hk2 h2; rw [<- hnil]; refine hx _ _ _ _ _ v (fun e H' d' hK => ?_) h1; cases e <;> first | (cases hK; done) | skip
  obtain ⟨v', g1, g2⟩ := qP h0 hc (fun _ _ => rfl) (fun _ _ => rfl) hK; cases g1; exact Sm.to g2 hS
 ·obtain ⟨o, h1, h2⟩ := ap h; rw [<- hnil]; refine hx _ _ _ _ _ o (fun e H' d' hK => ?_) h1; have esc : ∀ e, (K e H' ⟨d'.env ++ d.env, d'.h ++ d.h, d'.nx⟩).map (Sum.inr (α := Den P G S (Ty.tup k.tys))) = some o -> Q e (cat (cat b d) d').enc := by
   intro e hm; obtain ⟨r', hr, rfl⟩ := Option.map_eq_some_iff.1 hm; cases h2; rw [hcat]; exact hk _ _ _ hr
  cases e with
  | normal =>
   obtain ⟨v', g1, g2⟩ := qP h0 hc (fun _ _ => rfl) (fun _ _ => rfl) hK; cases g1; exact Sm.to g2 (hy R _ _ _ _ r Q hq hk2 h2)
  | _ => exact esc _ hK
theorem Jy {b : DS P G S} : ∀ {ow : List (Nat × Ty)} {d d1 : DS P G S}, wT b ow d = some d1 -> St.to F (cat b d).enc (cat b d1).enc := by
 intro ow
 induction ow with
 | nil => intro d d1 h; cases h; exact kZ
 | cons e r ih =>
  intro d d1 h; obtain ⟨t, τ⟩ := e; have key : ∀ x, af (cat b d).env t = some x -> (∃ sz, x.V (am (cat b d).h) = .d (.list sz [] true)) -> lr d.nx (cat b d) = true -> wT b r ⟨(t, .own d.nx) :: d.env, (d.nx, .row τ []) :: d.h, d.nx + 1⟩ = some d1 -> St.to F (cat b d).enc (cat b d1).enc := by
   intro x hx ⟨sz, hv⟩ hf h; refine aR ?_ (ih h); have ht : look (cat b d).enc.env t = some (.d (.list sz [] true)) := by rw [bN, hx, Option.map_some, hv]
   refine aR (nZ (st := (cat b d).enc) (t := t) (τ.bd P G S).w ht) ?_; exact Ai (b := b) (d := d) (t := t) (n := d.nx) (x := .own d.nx) (k := .row τ []) hf rfl (by show V.sref d.nx 0 0 = V.sref d.nx 0 (if d.nx = d.nx then 0 else am (cat b d).h d.nx); rw [if_pos rfl]) rfl
  unfold wT at h; split at h
  ·rename_i hx; split at h
   ·rename_i hf; exact key _ hx ⟨_, rfl⟩ hf h
   ·cases h
  ·rename_i hx; split at h
   ·rename_i hf; exact key _ hx ⟨_, rfl⟩ hf h
   ·cases h
  ·cases h
theorem Hh {c : Cf P G S} (h0 : F.n0 = c.n0) (hc : c.Ok) {ow : List (Nat × Ty)} {k : Ky} {Ha : Hn} {x : Rn P G S} {cx : Code} (hx : Okn F x cx) {b d : DS P G S} {K : Exit -> Hn -> DS P G S -> Option R} {r : R} {Q : zQz} (hq : Clo F Q) (hk : ∀ e H' d', K e H' d' = some r -> Q e (cat b d').enc)
  (h : Dx c ow k Ha x R b d K = some r) : Sm F (.loop cx) Q (cat b d).enc := by
 unfold Dx at h; split at h
 ·rename_i d1 hd1; have hk2 : ∀ e H' d', K e H' (jy k b d1 d') = some r -> Q e (cat (dv k (cat b d1)) d').enc := fun e H' d' hK => hq _ _ _ (xX k b d1 d') (hk _ _ _ hK)
  obtain ⟨v0, g1, g2⟩ := qP (F := F) h0 hc (fun _ _ => rfl) (fun _ _ => rfl) h; refine Sm.to (Jy hd1) (eE _ (fun v => (cat (dv k (cat b d1)) (ef c k (cat b d1) k.nx v)).enc) v0 g1 g2 ?_); intro n v o ho hL; refine hx _ _ _ _ _ o _ (Clo.next (fun st st' ht ⟨s', q1, q2⟩ => ⟨s', q1, aR ht q2⟩) hq) (fun e H' d' hK => ?_) ho; have esc : ∀ e, (K e H' (jy k b d1 d')).map (Sum.inr (α := Den P G S (Ty.tup k.tys))) = some o -> Q e (cat (dv k (cat b d1)) d').enc := by
   intro e hm; obtain ⟨r', hr, rfl⟩ := Option.map_eq_some_iff.1 hm; have := bV (body := fun v => x (Den P G S (Ty.tup k.tys) ⊕ R) (dv k (cat b d1)) Ha (ef c k (cat b d1) k.nx v) fun e H d' => match e with
    | .normal => qO c k (cat b d1) (dv k (cat b d1)) d' fun v' => some (Sum.inl v')
    | e => (K e H (jy k b d1 d')).map Sum.inr) rfl hL
   cases this; exact hk2 _ _ _ hr
  cases e with
  | normal =>
   obtain ⟨v', q1, q2⟩ := qP (F := F) h0 hc (fun t ht => by show af (pick _ _) t = _; rw [fN, if_pos ht]) (fun t ht => by show af (pick _ _) t = _; rw [fN, if_pos ht]) hK; cases q1; exact ⟨v', dN rfl hL, q2⟩
  | _ => exact esc _ hK
 ·cases h
theorem Co {c : Cf P G S} (h0 : F.n0 = c.n0) (hc : c.Ok) {n : Nat} {x y : Rn P G S} {cx cy : Code} (hx : Okn F x cx) (hy : Okn F y cy) : Okn F (DM c n x y) (.seq cx cy) := by
 intro R b H d K r Q hq hk h; unfold DM at h; split at h
 ·split at h
  ·exact zX h0 hc (fun R b H d K r hk h => Sm.seq (hx R b H d K r _ hq.sm hk h)) hy hq hk h
  ·exact tj hx hy _ _ _ _ _ _ _ hq hk h
  ·cases h
 ·exact tj hx hy _ _ _ _ _ _ _ hq hk h
theorem JQ (hF : Env F P G N) {c : Cf P G S} (h0 : F.n0 = c.n0) (hc : c.Ok) (hN : c.N = N) {md : List (Nat × Nat)} {rs : List ResultVar} : ∀ n : Nat, ∀ code : Code, SizeOf.sizeOf code < n -> Okn F (fY c md rs code) code := by
 intro n
 induction n with
 | zero => intro _ h; cases h
 | succ n ih =>
  intro code hs R b H d K r Q hq hk h; cases code with
  | skip => exact Sm.skip (hk _ _ _ h)
  | region id ops draw => exact JS hF h0 hc hN (fun H' d' hK => hk _ _ _ hK) h
  | cond x t e =>
   unfold fY at h; have it := ih t (by simp at hs; omega); have ie := ih e (by simp at hs; omega); split at h
   ·rename_i hx; exact aZ hF (dH hx) (it _ _ _ _ _ _ _ hq hk h)
   ·rename_i hx; exact aS hF (dH hx) (ie _ _ _ _ _ _ _ hq hk h)
   ·rename_i v hx; split at h
    ·cases v with
     | true => exact aZ hF (dH hx) (it _ _ _ _ _ _ _ hq hk h)
     | false => exact aS hF (dH hx) (ie _ _ _ _ _ _ _ hq hk h)
    ·cases h
   ·cases h
  | block id x =>
   unfold fY at h; refine Sm.block (ih x (by simp at hs; omega) _ _ _ _ _ _ _ hq.block (fun e H' d' hK => ?_) h); cases e with
   | exit id' =>
    show if id' = id then Q .normal _ else Q (.exit id') _
    have hK : (if id' = id then K .normal H' d' else K (.exit id') H' d') = some r := hK; split
    ·rename_i e; rw [if_pos e] at hK; exact hk _ _ _ hK
    ·rename_i e; rw [if_neg e] at hK; exact hk _ _ _ hK
   | _ => exact hk _ _ _ hK
  | exit id => exact Sm.exit (hk _ _ _ h)
  | ret =>
   unfold fY at h; split at h
   ·rename_i d1 hd1; exact Sm.to (wI (N := N) hd1).1 (Sm.ret (hk _ _ _ h))
   ·cases h
  | loop x =>
   unfold fY at h; split at h
   ·exact Hh h0 hc (ih x (by simp at hs; omega)) hq hk h
   ·cases h
  | seq x y =>
   have ix := ih x (by simp at hs; omega); have iy := ih y (by simp at hs; omega); cases y with
   | seq c2 rest =>
    have i2 := ih c2 (by simp at hs; omega); have i3 := ih rest (by simp at hs; omega); unfold fY at h; split at h
    ·split at h
     ·refine zX h0 hc (fun R b H d K r hk h => Sm.seq (FW (ix R b H d _ r _ (Clo.next (fun _ _ ht h => Sm.to ht h) hq) (fun e H' d' hK => ?_) h))) i3 hq hk h; cases e <;> first | exact i2 R b _ _ K r _ hq.sm hk hK | exact hk _ _ _ hK
     ·exact tj ix (tj i2 i3) _ _ _ _ _ _ _ hq hk h
     ·cases h
    ·exact Co h0 hc ix iy _ _ _ _ _ _ _ hq hk h
   | _ => exact Co h0 hc ix iy _ _ _ _ _ _ _ hq hk h
  | _ => cases h
end
end
section
section
variable {P : Program} {G : zGz} {S : Nm} {R : Type} {F : Fr} {N : Nat}
theorem BN {M : SX P G S} (hM : M.Ok) {len : Nat -> Nat} : ∀ (ts : List Ty) (i : Nat) (a : Den P G S (Ty.tup ts)), nn M ts a = true -> dq len (CO M i ts a) = ((oc ts a).zipIdx i).map fun e => (e.2, V.d e.1)
 | [], _, _, _ => rfl
 | [t], i, x, h => by
  obtain ⟨h1, h2, _⟩ := kK hM t x h; show [(i, (dO M t x).1.V len)] = [(i, V.d ((t.bd P G S).one x))]
  rw [ci h1, h2]
 | t :: u :: ts, i, x, h => by
  have h : (ig M t x.1 && nn M (u :: ts) x.2) = true := h; rw [Bool.and_eq_true] at h; obtain ⟨h1, h2, _⟩ := kK hM t x.1 h.1; have ih := BN (len := len) hM (u :: ts) (i + 1) x.2 h.2; show (i, (dO M t x.1).1.V len) :: dq len (CO M (i + 1) (u :: ts) x.2) = (i, V.d ((t.bd P G S).one x.1)) :: ((oc (u :: ts) x.2).zipIdx (i + 1)).map _; rw [ih, ci h1, h2]
theorem xy : ∀ (ts : List Ty) (a : Den P G S (Ty.tup ts)), (oc ts a).length = ts.length
 | [], _ => rfl
 | [_], _ => rfl
 | t :: u :: ts, x => by
  have := xy (u :: ts) x.2; show (oc (u :: ts) x.2).length + 1 = _; rw [this]; rfl
theorem JN {c : Cf P G S} (hc : c.Ok) {d : DS P G S} : ∀ {rs : List ResultVar} {acc : List (X P G S)} {K : List (X P G S) -> Option R} {r : R}, ul c d rs acc K = some r -> ∃ ys, K (acc.reverse ++ ys) = some r /\ (X.allD ys = true -> RetR P d.enc rs (X.ds ys)) := by
 intro rs
 induction rs with
 | nil => intro acc K r h; exact ⟨[], by simpa [ul] using h, fun _ => .nil⟩
 | cons v rs ih =>
  intro acc K r h; cases v with
  | tmp t =>
   unfold ul at h; split at h
   ·rename_i x hx; obtain ⟨ys, h1, h2⟩ := ih h; refine ⟨x :: ys, by simpa using h1, fun hd => ?_⟩; have hd : (x.isD && X.allD ys) = true := hd; rw [Bool.and_eq_true] at hd; refine .cons (.tmp ?_) (h2 hd.2); rw [aL, bN, hx, Option.map_some, ci hd.1]
   ·cases h
  | cell p ty =>
   unfold ul at h; split at h
   ·rename_i x hx; obtain ⟨z, hz, h⟩ := Ab (len := am d.h) hc.M h; obtain ⟨ys, h1, h2⟩ := ih h; refine ⟨z :: ys, by simpa using h1, fun hd => ?_⟩; have hd : (z.isD && X.allD ys) = true := hd; rw [Bool.and_eq_true] at hd; refine .cons (.cell (x := x.V (am d.h)) ?_ ?_) (h2 hd.2)
    ·rw [aL, bN, hx, Option.map_some]
    ·rw [<- ci (len := am d.h) hd.1]; exact hz
   ·cases h
theorem Hm {t : Ty} (h : DJ t = true) (v : Den P G S t) : (t.bd P G S).one v = DA ((t.bd P G S).args v) := by
 cases t with
 | pair a b =>
  cases b with
  | unit => cases h
  | _ => rfl
 | _ => rfl
theorem Fs {t : Ty} {v : Den P G S t} (h : DJ t = true) {ds : List D} (hl : ∀ C vs, Rp C (.outs ds vs) -> Rp C (.outs ((t.bd P G S).args v) vs)) (hlen : ds.length = ((t.bd P G S).args v).length) : (DA ds).le ((t.bd P G S).one v) := by
 rw [Hm h]; generalize (t.bd P G S).args v = es at *; intro C u hu
 match ds, es, hlen with
 | [], [], _ => exact hu
 | [d], [e], _ =>
  have := hl C [u] (.ocons _ _ _ _ hu .onil); cases this with | ocons _ _ _ _ h1 _ => exact h1
 | _ :: _ :: _, _ :: _ :: _, _ =>
  cases hu with | tup _ vs h1 => exact .tup _ _ (hl C vs h1)
theorem sL {M : SX P G S} (hM : M.Ok) {len : Nat -> Nat} : ∀ (m : List Bool) (ts : List Ty) (i : Nat) (a : Den P G S (Ty.tup ts)), nn M ts a = true -> dq len (pa M i m ts a) = ((jJ m ts a).zipIdx i).map fun e => (e.2, V.d e.1)
 | [], ts, i, a, h => BN hM ts i a h
 | true :: m, ts, i, a, h => by
  show (i, V.d (.list 0 [] true)) :: dq len (pa M (i + 1) m ts a) = (i, V.d (.list 0 [] true)) :: ((jJ m ts a).zipIdx (i + 1)).map _; rw [sL hM m ts (i + 1) a h]
 | false :: m, [t], i, x, h => by
  obtain ⟨h1, h2, _⟩ := kK hM t x h; show (i, (dO M t x).1.V len) :: dq len (pa M (i + 1) m [] ()) = (i, V.d ((t.bd P G S).one x)) :: ((jJ m [] ()).zipIdx (i + 1)).map _; rw [sL hM m [] (i + 1) () rfl, ci h1, h2]
 | false :: m, t :: u :: ts, i, x, h => by
  have h : (ig M t x.1 && nn M (u :: ts) x.2) = true := h; rw [Bool.and_eq_true] at h; obtain ⟨h1, h2, _⟩ := kK hM t x.1 h.1; show (i, (dO M t x.1).1.V len) :: dq len (pa M (i + 1) m (u :: ts) x.2) = (i, V.d ((t.bd P G S).one x.1)) :: ((jJ m (u :: ts) x.2).zipIdx (i + 1)).map _; rw [sL hM m (u :: ts) (i + 1) x.2 h.2, ci h1, h2]
 | false :: _, [], _, _, _ => rfl
theorem oa : ∀ (m : List Bool) (ts : List Ty) (a : Den P G S (Ty.tup ts)), (jJ m ts a).length = Dq m ts
 | [], ts, a => xy ts a
 | true :: m, ts, a => congrArg (· + 1) (oa m ts a)
 | false :: m, [t], x => congrArg (· + 1) (oa m [] ())
 | false :: m, t :: u :: ts, x => congrArg (· + 1) (oa m (u :: ts) x.2)
 | false :: _, [], _ => rfl
theorem JP (hF : Env F P G N) {c : Cf P G S} (h0 : F.n0 = c.n0) (hc : c.Ok) (hN : c.N = N) {md : List (Nat × Nat)} {fn : Func} {rs : List ResultVar} {code : Code} (hb : fn.body = some code) {d0 : DS P G S} {H : Hn} {fin : DS P G S -> Option R} {r : R} {Q : zQz} (hQ : ∀ d', fin d' = some r -> Q .ret d'.enc /\ Q .normal d'.enc)
  (h : Az c md fn rs d0 H fin = some r) : Sm F code Q d0.enc := by
 have hcat : ∀ d : DS P G S, cat ⟨[], [], 0⟩ d = d := fun d => by
  show (⟨d.env ++ [], d.h ++ [], d.nx⟩ : DS P G S) = d; rw [List.append_nil, List.append_nil]
 unfold Az at h; rw [hb] at h; rw [<- hcat d0]; refine Sm.cloQ (JQ hF h0 hc hN _ code (Nat.lt_succ_self _) _ _ _ _ _ r _ Gz ?_ h); intro e H' d' hK; rw [hcat]; cases e with
 | ret => exact ⟨_, kZ, (hQ d' hK).1⟩
 | normal => exact ⟨_, kZ, (hQ d' hK).2⟩
 | _ => cases hK
theorem FQ {c : Cf P G S} {md : List (Nat × Nat)} {fn : Func} {rs : List ResultVar} {d0 : DS P G S} {H : Hn} {fin : DS P G S -> Option R} {r : R} (h : Az c md fn rs d0 H fin = some r) : ∃ code, fn.body = some code := by
 unfold Az at h; split at h
 ·rename_i code hb; exact ⟨code, hb⟩
 ·cases h
theorem JR {c : Cf P G S} (hc : c.Ok) (hz : c.n0 = 0) {md : List (Nat × Nat)} {f : FuncId} {fn : Func} {m : List Bool} {A : List Ty} {B : Ty} {H : Hn} {a : Den P G S (Ty.tup A)} {r : Den P G S B} (hf : P.funcs[f]? = some fn) (hN : fn.ntmps = c.N) (h : fF c md fn m A B H a = some r) : aj P G f (jJ m A a) ((B.bd P G S).one r) := by
 unfold fF at h; split at h
 ·rename_i hok; rw [Bool.and_eq_true, Bool.and_eq_true] at hok; obtain ⟨ha, hB, hA⟩ := hok; obtain ⟨code, hb⟩ := FQ h; refine aj.of hf hb hN (by rw [oa]; exact Nat.le_of_ble_eq_true hA) ?_; intro F hF h0 _; have e0 : (⟨(jJ m A a).zipIdx.map fun e => (e.2, V.d e.1), [], 0⟩ : St) = (⟨pa c.M 0 m A a, [], 0⟩ : DS P G S).enc := by
   show _ = (⟨dq _ (pa c.M 0 m A a), [], 0⟩ : St)
   rw [sL hc.M m A 0 a ha]
  rw [e0]; refine JP hF (h0.trans hz.symm) hc rfl hb (fun d' hK => ?_) h; obtain ⟨ys, h1, h2⟩ := JN hc hK; obtain ⟨v, h3, ⟨h4, h6⟩, h5⟩ := BU hc.M _ _ _ _ h1; cases h3; rw [List.reverse_nil, List.nil_append] at h4 h5 h6; exact ⟨tg (h2 h4) (Fs hB h5 h6), tg (h2 h4) (Fs hB h5 h6)⟩
 ·cases h
inductive CsOk : List (Con P G S) -> Prop
 | nil : CsOk []
 | cons {c : Con P G S} {r : List (Con P G S)} : c.Ok -> CsOk r -> CsOk (c :: r)
theorem CsOk.mem {l : List (Con P G S)} (h : CsOk l) : ∀ x ∈ l, x.Ok := by
 induction h with
 | nil => intro x hx; cases hx
 | cons h1 _ ih =>
  intro x hx; rcases List.mem_cons.1 hx with rfl | hx
  ·exact h1
  ·exact ih x hx
inductive LsOk : List (Lc P G S) -> Prop
 | nil : LsOk []
 | cons {c : Lc P G S} {r : List (Lc P G S)} : c.Ok -> LsOk r -> LsOk (c :: r)
theorem LsOk.mem {l : List (Lc P G S)} (h : LsOk l) : ∀ x ∈ l, x.Ok := by
 induction h with
 | nil => intro x hx; cases hx
 | cons h1 _ ih =>
  intro x hx; rcases List.mem_cons.1 hx with rfl | hx
  ·exact h1
  ·exact ih x hx
inductive ZeOk (P : Program) {G : zGz} {S : Nm} : List (Nat × List (X P G S)) -> Prop
 | nil : ZeOk P []
 | cons {t : Nat} {z : List (X P G S)} {r : List (Nat × List (X P G S))} : bK P t = some (X.cs z) /\ flD z = true -> ZeOk P r -> ZeOk P ((t, z) :: r)
theorem ZeOk.ok {l : List (Nat × List (X P G S))} (h : ZeOk P l) : ∀ t z, af l t = some z -> bK P t = some (X.cs z) /\ flD z = true := by
 induction h with
 | nil => intro t z h; cases h
 | @cons t z r h1 _ ih =>
  intro t' z' h; rw [eL] at h; split at h
  ·rename_i e; subst e; cases h; exact h1
  ·exact ih t' z' h
theorem Lf {c : Cf P G S} (hc : c.Ok) (hz : c.n0 = 0) {md : List (Nat × Nat)} {f : Nat} {fn : Func} {m : List Bool} {A : List Ty} {B : Ty} {H : Hn} {φ : Den P G S (Ty.tup A) -> Option (Den P G S B)} (he : ∀ a, fF c md fn m A B H a = φ a) (hf : P.funcs[f]? = some fn) (hN : fn.ntmps = c.N) : Con.Ok (⟨f, m, A, B, φ, false⟩ : Con P G S) :=
 ⟨fun _ a r h => JR hc hz hf hN ((he a).trans h), fun h => by cases h⟩
end
end
section
abbrev u1 := Tryd.underlying1
abbrev u2 := Tryd.underlying2
abbrev u3 := Tryd.underlying3
abbrev u5 := Tryd.underlying5
abbrev u8 := Tryd.underlying8
abbrev u16 := Tryd.underlying16
abbrev u24 := Tryd.underlying24
theorem rM : ElemT Tryd.prog 24 53 (Value.agg #[Value.int IntKind.u8 0, Value.int IntKind.u8 0, Value.int IntKind.u8 0, Value.int IntKind.u8 0, Value.int IntKind.u8 0, Value.int IntKind.u8 0, Value.int IntKind.u8 0, Value.int IntKind.u8 0, Value.int IntKind.u8 0, Value.int IntKind.u8 0, Value.int IntKind.u8 0, Value.int IntKind.u8 0, Value.int IntKind.u8 0, Value.int IntKind.u8 0, Value.int IntKind.u8 0, Value.int IntKind.u8 0, Value.int IntKind.u8 0, Value.int IntKind.u8 0, Value.int IntKind.u8 0, Value.int IntKind.u8 0, Value.int IntKind.u8 0, Value.int IntKind.u8 0, Value.int IntKind.u8 0, Value.int IntKind.u8 0, Value.int IntKind.u8 0, Value.int IntKind.u8 0, Value.int IntKind.u8 0, Value.int IntKind.u8 0, Value.int IntKind.u8 0, Value.int IntKind.u8 0, Value.int IntKind.u8 0, Value.int IntKind.u8 0, Value.slice none 0 0]) 33 56 := ⟨Tryd.underlying24, by kernel_rfl, rfl, by decide⟩
abbrev u25 := Tryd.underlying25
theorem tV : ElemT Tryd.prog 25 30 (Value.slice none 0 0) 1 24 := ⟨Tryd.underlying25, by kernel_rfl, rfl, by decide⟩
theorem ET : gx Tryd.prog 27 0 = some (0, 1) := by kernel_rfl
theorem zP : gx Tryd.prog 27 1 = some (1, 1) := by kernel_rfl
theorem EU : gx Tryd.prog 27 2 = some (2, 1) := by kernel_rfl
abbrev u30 := Tryd.underlying30
theorem lf : ElemT Tryd.prog 30 5 (Value.int IntKind.u8 0) 1 1 := ⟨Tryd.underlying30, by kernel_rfl, rfl, by decide⟩
abbrev u31 := Tryd.underlying31
abbrev u32 := Tryd.underlying32
theorem Nu : bK Tryd.prog 47 = some [.v .nilFunc] := by kernel_rfl
theorem Nv : bK Tryd.prog 51 = some [.v .nilFunc] := by kernel_rfl
theorem EV : gx Tryd.prog 53 0 = some (0, 32) := by kernel_rfl
abbrev u64 := Tryd.underlying64
abbrev u98 := Tryd.underlying98
theorem Nq : bK Tryd.prog 106 = some [.v .nilFunc] := by kernel_rfl
abbrev AQ := Tryd.underlying126
end
section
structure Ob where
 sum : Vec 32
 data : zBz
def Ob.row (x : Ob) : List D := (ay x.sum.l ++ [.list 1 (x.data.map ai) false])
structure Sto where
 objects : List Ob
 safe : List zBz
 queue : List zBz
def Sto.row (x : Sto) : List D := [.list 33 (x.objects.map Ob.row) false, .list 1 (x.safe.map av) false, .list 1 (x.queue.map av) false]
structure SRaw where
 kind : UInt8
 data : zBz
 keep : List Bool
def SRaw.row (x : SRaw) : List D := [.v (.int .u8 (x.kind.toNat : Int)), .list 1 (x.data.map ai) false, .list 1 (x.keep.map oK) false]
structure Rcd where
 ok : Bool
 kind : UInt8
 n : Int
 data : zBz
 sum : Vec 32
def Rcd.row (x : Rcd) : List D := ([.v (.bool x.ok), .v (.int .u8 (x.kind.toNat : Int)), .v (.int .i64 x.n), .list 1 (x.data.map ai) false] ++ ay x.sum.l)
structure Std where
 s : Sto
 k : Vec 32
 e : Int
def Std.row (x : Std) : List D := ([.list 33 (x.s.objects.map Ob.row) false, .list 1 (x.s.safe.map av) false, .list 1 (x.s.queue.map av) false] ++ ay x.k.l ++ [.v (.int .i64 x.e)])
structure Gott where
 b : zBz
 e : Int
def Gott.row (x : Gott) : List D := [.list 1 (x.b.map ai) false, .v (.int .i64 x.e)]
def nmA : Nat -> Type
 | 0 => Ob
 | 1 => Sto
 | 2 => SRaw
 | 3 => Rcd
 | 4 => Std
 | 5 => Gott
 | _ => Unit
def nmW : Nat -> Nat
 | 0 => 33
 | 1 => 3
 | 2 => 3
 | 3 => 36
 | 4 => 36
 | 5 => 2
 | _ => 0
def Ma : ∀ i, nmA i -> List D
 | 0, x => Ob.row x
 | 1, x => Sto.row x
 | 2, x => SRaw.row x
 | 3, x => Rcd.row x
 | 4, x => Std.row x
 | 5, x => Gott.row x
 | _ + 6, _ => []
def nmS : Nm := ⟨nmA, nmW, Ma⟩
def nmF : Nat -> List Ty
 | 0 => [(.vec 32), (.lst .u8)]
 | 1 => [(.lst (.nm 0)), (.lst (.lst .u8)), (.lst (.lst .u8))]
 | 2 => [.u8, (.lst .u8), (.lst .bool)]
 | 3 => [.bool, .u8, (.int .i64), (.lst .u8), (.vec 32)]
 | 4 => [(.nm 1), (.vec 32), (.int .i64)]
 | 5 => [(.lst .u8), (.int .i64)]
 | _ => []
def nmM : SX Tryd.prog HG nmS where
 fs := nmF
 pr := fun i => match i with
  | 0 => fun x => (x.sum, x.data)
  | 1 => fun x => (x.objects, x.safe, x.queue)
  | 2 => fun x => (x.kind, x.data, x.keep)
  | 3 => fun x => (x.ok, x.kind, x.n, x.data, x.sum)
  | 4 => fun x => (x.s, x.k, x.e)
  | 5 => fun x => (x.b, x.e)
  | _ + 6 => fun _ => ()
 im := fun i => match i with
  | 0 => fun x => (⟨x.1, x.2⟩ : Ob)
  | 1 => fun x => (⟨x.1, x.2.1, x.2.2⟩ : Sto)
  | 2 => fun x => (⟨x.1, x.2.1, x.2.2⟩ : SRaw)
  | 3 => fun x => (⟨x.1, x.2.1, x.2.2.1, x.2.2.2.1, x.2.2.2.2⟩ : Rcd)
  | 4 => fun x => (⟨x.1, x.2.1, x.2.2⟩ : Std)
  | 5 => fun x => (⟨x.1, x.2⟩ : Gott)
  | _ + 6 => fun _ => ()
def tyL : List (Nat × Ty) := [(2, (.int .i64)), (3, (.int .i64)), (4, .bool), (5, .u8), (6, .u8), (9, .str), (10, .str), (11, .str), (12, (.int .u64)), (21, (.int .i32)), (22, (.lst (.nm 2))), (24, (.lst (.nm 0))), (25, (.lst (.lst .u8))), (26, (.nm 1)), (27, (.nm 1)), (30, (.lst .u8)), (31, (.lst .bool)), (32, (.nm 2)), (33, (.nm 2)), (41, (.vec 32)), (42, (.vec 32)), (43, (.int .i64)), (44, (.nm 4)), (45, (.nm 4)), (48, (.nm 5)), (49, (.nm 5)), (52, (.nm 0)), (53, (.nm 0)), (61, (.int .u16)), (63, (.nm 3)), (64, (.nm 3)), (82, (.int .u64)), (83, (.int .u32)), (98, (.lst (.lst (.lst .u8)))), (115, (.lst (.int .u32))), (117, (.int .u64)), (126, (.lst (.lst (.nm 0)))), (133, .u8), (134, .u8), (137, (.int .i32)), (138, (.int .i32))]
def zeL : List (Nat × List (X Tryd.prog HG nmS)) := [(1, [.nf]), (2, [.lit .i64 0]), (3, [.lit .i64 0]), (4, [.bl false]), (5, [.lit .u8 0]), (6, [.lit .u8 0]), (7, [.lit .i64 0, .lit .i64 0, .bl false, .lit .u8 0]), (8, [.lit .i64 0, .lit .i64 0, .bl false, .lit .u8 0]), (9, [.s .str []]), (10, [.s .str []]), (11, [.s .str []]), (12, [.lit .u64 0]), (13, [.s .str [], .lit .u64 0]), (14, [.s .str [], .lit .u64 0]), (21, [.lit .i32 0]), (22, [.nil]), (23, [.nf]), (24, [.nil]), (25, [.nil]), (26, [.nil, .nil, .nil]), (27, [.nil, .nil, .nil]), (28, [.nf]), (29, [.nf]), (30, [.nil]), (31, [.nil]), (32, [.lit .u8 0, .nil, .nil]), (33, [.lit .u8 0, .nil, .nil]), (34, [.nf]), (35, [.nf]), (36, [.nf]), (37, [.nf]), (38, [.nf]), (39, [.nf]), (40, [.nf]), (41, [.s (.vec 32) ⟨List.replicate 32 0, rfl⟩]), (42, [.s (.vec 32) ⟨List.replicate 32 0, rfl⟩]), (43, [.lit .i64 0]), (44, [.nil, .nil, .nil, .s (.vec 32) ⟨List.replicate 32 0, rfl⟩, .lit .i64 0]), (45, [.nil, .nil, .nil, .s (.vec 32) ⟨List.replicate 32 0, rfl⟩, .lit .i64 0]), (46, [.nf]), (47, [.nf]), (48, [.nil, .lit .i64 0]), (49, [.nil, .lit .i64 0]), (50, [.nf]), (51, [.nf]), (52, [.s (.vec 32) ⟨List.replicate 32 0, rfl⟩, .nil]), (53, [.s (.vec 32) ⟨List.replicate 32 0, rfl⟩, .nil]), (54, [.nf]), (55, [.nf]), (56, [.nf]), (57, [.nf]), (58, [.nf]), (59, [.nf]), (60, [.nf]), (61, [.lit .u16 0]), (62, [.lit .u16 0, .lit .u16 0, .lit .u16 0]), (63, [.bl false, .lit .u8 0, .lit .i64 0, .nil, .s (.vec 32) ⟨List.replicate 32 0, rfl⟩]), (64, [.bl false, .lit .u8 0, .lit .i64 0, .nil, .s (.vec 32) ⟨List.replicate 32 0, rfl⟩]), (65, [.nf]), (66, [.nf]), (67, [.nf]), (68, [.nf]), (69, [.nf]), (70, [.nf]), (71, [.nf]), (72, [.nf]), (73, [.nf]), (74, []), (75, []), (77, [.nf]), (80, [.nf]), (81, [.nf]), (82, [.lit .u64 0]), (83, [.lit .u32 0]), (84, List.replicate 8 (.lit .u32 0)), (85, [.nf]), (86, [.nf]), (87, [.nf]), (88, [.nf]), (90, [.nf]), (92, [.nf]), (93, [.nf]), (94, [.nf]), (95, [.nf]), (96, [.nf]), (97, [.nf]), (98, [.nil]), (99, [.nf]), (100, [.nf]), (102, [.nil]), (103, [.nil]), (104, [.nf]), (105, [.nf]), (106, [.nf]), (108, [.nf]), (109, [.nf]), (110, [.nf]), (111, [.nf]), (112, List.replicate 64 (.lit .u32 0)), (113, [.nf]), (114, [.nf]), (115, [.nil]), (116, [.nf]), (117, [.lit .u64 0]), (118, [.nf]), (119, [.nf]), (120, [.nf]), (121, [.nf]), (122, [.nf]), (123, [.nf]), (124, [.nf]), (125, [.nf]), (126, [.nil]), (127, [.nf]), (133, [.lit .u8 0]), (134, [.lit .u8 0]), (135, [.nf]), (137, [.lit .i32 0]), (138, [.lit .i32 0])]
def nmT : TT Tryd.prog HG nmS := ⟨fun t => af tyL t, fun t => af zeL t⟩
theorem KG : nmM.Ok where
 pr := fun i => match i with
  | 0 => fun _ => rfl
  | 1 => fun _ => rfl
  | 2 => fun _ => rfl
  | 3 => fun _ => rfl
  | 4 => fun _ => rfl
  | 5 => fun _ => rfl
  | _ + 6 => fun _ => rfl
 im := fun i => match i with
  | 0 => fun _ => rfl
  | 1 => fun _ => rfl
  | 2 => fun _ => rfl
  | 3 => fun _ => rfl
  | 4 => fun _ => rfl
  | 5 => fun _ => rfl
  | _ + 6 => fun _ => rfl
theorem Lz : ZeOk Tryd.prog zeL := by
 repeat' first | exact .nil | refine .cons ⟨by kernel_rfl, rfl⟩ ?_
theorem KH : nmT.Ok := ⟨fun _ _ h => Lz.ok _ _ h⟩
noncomputable def cfA (cs : List (Con Tryd.prog HG nmS)) (n : Nat) (ro : List Nat) (ls : List (Lc Tryd.prog HG nmS) := []) : Cf Tryd.prog HG nmS := ⟨nmM, nmT, cs, n, ro, [], ls, 0⟩
theorem gL {cs : List (Con Tryd.prog HG nmS)} {n : Nat} {ro : List Nat} {ls : List (Lc Tryd.prog HG nmS)} (hcs : CsOk cs) {md : List (Nat × Nat)} {f : Nat} {fn : Func} {m : List Bool} {A : List Ty} {B : Ty} {H : Hn} {φ : Den Tryd.prog HG nmS (Ty.tup A) -> Option (Den Tryd.prog HG nmS B)} (he : ∀ a, fF (cfA cs n ro ls) md fn m A B H a = φ a) (hf : Tryd.prog.funcs[f]? = some fn) (hN : fn.ntmps = n) (hls : LsOk ls := by exact .nil) : Con.Ok (⟨f, m, A, B, φ, false⟩ : Con Tryd.prog HG nmS) := Lf ⟨KG, KH, hcs.mem, hls.mem⟩ rfl he hf hN
end
section
inductive Rt where
 | ret (v : V)
 | pan (ch : List PanicEntry)
def Rt.is (μ : zMz) (C : aw) : Rt -> Ending -> Prop
 | .ret r, e => ∃ v, e = .returned v /\ ax μ C r v
 | .pan ch, e => e = .panicked ch
def ee (P : Program) (G : zGz) (f : FuncId) (h : zHz) (n0 : Nat) (xs : List V) (Post : Rt -> zHz -> Nat -> Prop) : Prop :=
 ∀ μ C w vs, fK G C -> bG C w -> Held (fun _ => True) h μ C w -> (∀ l, n0 <= l -> μ l = none) -> RepVs μ C xs vs ->
  Calls P f vs.toArray w fun e W' => ∃ q h' n1 μ' C', Post q h' n1 /\ q.is μ' C' e /\ (∀ l p, l < n0 -> μ l = some p -> μ' l = some p) /\ (∀ l, l < n0 -> (look h' l).isSome = true -> (look h l).isSome = true \/ μ l = none) /\ (∀ l, n1 <= l -> μ' l = none) /\ Kept (eC h μ) w W' /\ (∀ b o u, C b o u -> C' b o u) /\
   (∀ b o u, C' b o u -> C b o u \/ w.heap.size <= b \/ eC h μ b) /\ bG C' W' /\ Held (fun b => w.heap.size <= b \/ eC h μ b) h' μ' C' W'
def MM (P : Program) (fn : Func) (Post : Rt -> zHz -> Nat -> Prop) : Exit -> St -> Prop
 | .ret, st | .normal, st => ∃ v r, ((kI P st fn.results.toList).map .d = some v \/ ∃ pk, pm P pk st fn.results.toList = some v) /\ v.le r /\ Post (.ret r) st.h st.nx
 | .panic ch, st => Post (.pan ch) st.h st.nx
 | _, _ => False
section
variable {P : Program} {G : zGz} {N : Nat}
theorem ee.of {f : FuncId} {fn : Func} {c : Code} {h : zHz} {n0 : Nat} {xs : List V} {Post : Rt -> zHz -> Nat -> Prop} (hf : P.funcs[f]? = some fn) (hb : fn.body = some c) (hN : fn.ntmps = N) (hp : xs.length <= N)
  (hh : ∀ F, Env F P G N -> F.n0 = n0 -> F.top -> Sm F c (MM P fn Post) ⟨xs.zipIdx.map fun e => (e.2, e.1), h, n0⟩) : ee P G f h n0 xs Post := by
 intro μ C w vs hG hk hH hnx ha
 let F : Fr := ⟨P, N, w, C, eC h μ, none, n0, [], fun _ h' μ' _ _ => (∀ l p, l < n0 -> μ l = some p -> μ' l = some p) /\ ∀ l, l < n0 -> (look h' l).isSome = true -> (look h l).isSome = true \/ μ l = none, fun g t => ⟨fun l p hl hp => t.low l p hl (g.1 l p hl hp), fun l hl hi => (t.dom l hi).elim (g.2 l hl) fun hn => .inr (by
  cases hq : μ l with
  | none => rfl
  | some p => rw [g.1 l p hl hq] at hn; cases hn)⟩⟩
 have hvl : vs.length = xs.length := ha.length; have hsz : (vs.toArray ++ Array.replicate (fn.ntmps - vs.toArray.size) undef).size = N := by simp; omega
 have hlook : ∀ (xs : List V) (k : Nat) (t : Nat) (x : V), look ((xs.zipIdx k).map fun e => (e.2, e.1)) t = some x -> k <= t /\ xs[t - k]? = some x := by
  intro xs
  induction xs with
  | nil => intro k t x h; simp [look] at h
  | cons d xs ih =>
   intro k t x h; simp only [List.zipIdx_cons, List.map_cons, look] at h; split at h
   ·rename_i e; cases h; subst e; exact ⟨Nat.le_refl _, by simp⟩
   ·obtain ⟨h1, h2⟩ := ih _ _ _ h; refine ⟨by omega, ?_⟩; rw [show t - k = (t - (k + 1)) + 1 by omega]; simpa using h2
 have hsim : Sim F ⟨xs.zipIdx.map fun e => (e.2, e.1), h, n0⟩ μ C { tmps := vs.toArray ++ Array.replicate (fn.ntmps - vs.toArray.size) undef, defers := [] } w := by
  refine ⟨hsz, .nil _ _, Kept.refl _ _, fun _ _ _ h => h, fun _ _ _ h => .inl h, hk, fun t x hx => ?_, fun l k hk => ?_, hH.inj, hnx, fun _ _ _ h => h, fun _ _ h => .inl h⟩
  ·obtain ⟨_, hd⟩ := hlook xs 0 t x hx; rw [Nat.sub_zero] at hd; obtain ⟨v, h1, h2⟩ := ha.get t x hd; have htl := (List.getElem?_eq_some_iff.1 h1).1; have : (vs.toArray ++ Array.replicate (fn.ntmps - vs.toArray.size) undef).getD t undef = v := by
    rw [Array.getD_eq_getD_getElem?, Array.getElem?_append_left (by simpa using htl)]; simp [h1]
   rw [this]; exact h2
  ·obtain ⟨p, hp, hB⟩ := hH.heap l k hk; refine ⟨p, hp, hB.sz, hB.len, hB.max, hB.row, fun hc => ?_⟩; obtain ⟨_, b⟩ := hB.cells hc; exact ⟨.inr ⟨l, k, p, hk, hp, hc, rfl⟩, b⟩
 refine zu (F := F) rfl rfl rfl hf hb (hh F ⟨rfl, rfl, hG⟩ rfl ⟨rfl, fun _ _ _ _ _ _ _ _ h => h⟩) hsim (fun e st' hq => by cases e <;> first | exact .inl rfl | exact .inr (.inl rfl) | exact .inr (.inr ⟨_, rfl⟩) | exact hq.elim) ?_ ?_
 ·intro e st' μ' C' a w' hq hs0 hne a2 w'' _ hs; have hq' : ∃ v r, ((kI P st' fn.results.toList).map .d = some v \/ ∃ pk, pm P pk st' fn.results.toList = some v) /\ v.le r /\ Post (.ret r) st'.h st'.nx := by
   cases e <;> first | exact hq | exact absurd rfl (hne _) | exact hq.elim
  obtain ⟨v, r, hv, hle, hpost⟩ := hq'; obtain ⟨hlow, hdom⟩ := hs0.gh; have hdom : ∀ l, l < n0 -> (look st'.h l).isSome = true -> (look h l).isSome = true \/ μ l = none := hdom; have hlow : ∀ l p, l < n0 -> μ l = some p -> μ' l = some p := hlow; have hres : ∃ u, (results fn a2.tmps).run P w'' = .ok u w'' /\ ax μ' C' v u := by
   rcases hv with hv | ⟨pk, hv⟩
   ·simp only [Option.map_eq_some_iff] at hv; obtain ⟨d, hd, rfl⟩ := hv; obtain ⟨u, h1, h2⟩ := xa hs hd; exact ⟨u, h1, h2⟩
   ·exact xb hs hv
  obtain ⟨u, h1, h2⟩ := hres; exact ⟨u, h1, .ret r, st'.h, st'.nx, μ', C', hpost, ⟨u, rfl, hle _ _ _ h2⟩, hlow, hdom, hs.nx, hs.below, hs.sub, hs.new, hs.known, hs.heap, hs.inj⟩
 ·intro ch st' μ' C' a w' hq hs0 a2 w'' _ hs; obtain ⟨hlow, hdom⟩ := hs0.gh; have hdom : ∀ l, l < n0 -> (look st'.h l).isSome = true -> (look h l).isSome = true \/ μ l = none := hdom; have hlow : ∀ l p, l < n0 -> μ l = some p -> μ' l = some p := hlow; exact ⟨.pan ch, st'.h, st'.nx, μ', C', hq, rfl, hlow, hdom, hs.nx, hs.below, hs.sub, hs.new, hs.known, hs.heap, hs.inj⟩
theorem Sim.back {F : Fr} {st : St} {μ : zMz} {C : aw} {a : Act} {w : World} (hs : Sim F st μ C a w) (hn : F.n0 <= st.nx) {h' : zHz} {n1 : Nat} {μ' : zMz} {C' : aw} {W' : World}
  (hlow : ∀ l p, l < st.nx -> μ l = some p -> μ' l = some p) (hdom : ∀ l, l < st.nx -> (look h' l).isSome = true -> (look st.h l).isSome = true \/ μ l = none) (hn1 : ∀ l, n1 <= l -> μ' l = none) (hkept : Kept (eC st.h μ) w W') (hsub : ∀ b o u, C b o u -> C' b o u) (hnew : ∀ b o u, C' b o u -> C b o u \/ w.heap.size <= b \/ eC st.h μ b) (hkn : bG C' W')
  (hheld : Held (fun b => w.heap.size <= b \/ eC st.h μ b) h' μ' C' W') : Sim F ⟨st.env, h', n1⟩ μ' C' a W' /\ ∀ l p, μ l = some p -> μ' l = some p := by
 have hm : ∀ m p, μ m = some p -> μ' m = some p := fun m p hp => by
  rcases Nat.lt_or_ge m st.nx with h | h
  ·exact hlow m p h hp
  ·rw [hs.nx m h] at hp; cases hp
 have hmine : ∀ b, (w.heap.size <= b \/ eC st.h μ b) -> F.mine b := fun b hb => hb.elim (fun hb => .inl (Nat.le_trans hs.below.size hb)) fun hb => (hs.own_cells hb).1
 refine ⟨⟨hs.size, ⟨hs.defers.nodup, fun d hd => ?_⟩, ⟨hkept.os.trans hs.below.os, hkept.tape.trans hs.below.tape, hkept.output.trans hs.below.output, Nat.le_trans hs.below.size hkept.size, fun n hn hno => ?_⟩, fun b o u hc => hsub _ _ _ (hs.sub _ _ _ hc), fun b o u hc => (hnew b o u hc).elim (hs.new b o u) fun hb => .inr (hmine b hb), hkn, fun t x hx => (hs.env t x hx).mono hm hsub, fun l k hk => ?_, hheld.inj, hn1, F.stab hs.gh ⟨hkept.os, hkept.tape, hkept.output, hkept.size, fun l p hl hp => hlow l p (by omega) hp, fun l hl => ?_, hkept.block, fun b ⟨l, k, p, g1, g2, g3, g4⟩ => ?_, hsub, fun b o u hc => (hnew b o u hc).imp id Or.symm, hkn⟩⟩, hm⟩
 ·refine (hs.defers.each d hd).imp id fun ⟨q, q1, q2, q3⟩ => ⟨q, q1, q2, (hkept.block q (Array.getElem?_eq_some_iff.1 q3).1 fun ho => ?_).trans q3⟩
  exact ((hs.own_cells ho).2.2.2 _ q3).1 _ rfl
 ·rw [hkept.block n (Nat.lt_of_lt_of_le hn hs.below.size) fun ho => ?_]
  ·exact hs.below.block n hn hno
  ·rcases (hs.own_cells ho).1 with h1 | h1
   ·omega
   ·exact hno h1
 ·obtain ⟨p, hp, hb⟩ := hheld.heap l k hk; exact ⟨p, hp, hb.sz, hb.len, hb.max, hb.row, fun hc => ⟨hmine _ (hb.cells hc).1, (hb.cells hc).2⟩⟩
 ·rcases Nat.lt_or_ge l st.nx with h | h
  ·exact hdom l h hl
  ·exact .inr (hs.nx l h)
 ·obtain ⟨p2, hp2, hb⟩ := hheld.heap l k g1; rw [g2] at hp2; cases hp2; rw [<- g4]; exact (hb.cells g3).1.symm
def nE (ev : Operand -> Option V) : List Operand -> Option (List V)
 | [] => some []
 | x :: xs => match ev x, nE ev xs with
  | some v, some vs => some (v :: vs)
  | _, _ => none
theorem rQ {ev : Operand -> Option V} {μ : zMz} {C : aw} {a : Act} (hev : ∀ x v, ev x = some v -> ax μ C v (a.eval x)) : ∀ {xs : List Operand} {vs : List V}, nE ev xs = some vs -> RepVs μ C vs (xs.map a.eval)
 | [], _, h => by cases h; exact .nil
 | x :: xs, vs, h => by
  simp only [nE] at h; split at h
  ·rename_i v vs' h1 h2; cases h; exact .cons _ _ _ _ (hev x v h1) (rQ hev h2)
  ·cases h
theorem fe.vs {μ : zMz} {C : aw} : ∀ {cs : List Cap} {vs : zLz}, fe μ C cs vs -> RepVs μ C (cs.map Cap.v) vs
 | [], _, h => by cases h; exact .nil
 | c :: cs, _, ⟨v, us, e, h1, h2⟩ => by
  subst e; exact .cons _ _ _ _ (Cap.rep.1 h1) h2.vs
section
variable {F : Fr} {ops : Array Oper} {rest : zOz} {o : Oper} {Q : zQz} {st : St}
theorem uN {t : Tmp} {f : FuncId} {vs : List V} {us : zLz} {Post : Rt -> zHz -> Nat -> Prop} {μ : zMz} {C : aw} {a : Act} {w : World} (hs : Sim F st μ C a w) (hG : fK G F.C0) (hn : F.n0 <= st.nx) (hd : o.dst = some t) (ht : t < F.N)
  (hc : ee F.P G f st.h st.nx vs Post) (hvs : RepVs μ C vs us) {K : Act -> World -> Prop} (hK : ∀ a w, wpListIn F.fz 0 F.P ops (Sq F Q) rest a w -> K a w)
  (k : ∀ v h' n1, Post (.ret v) h' n1 -> SmL F ops rest Q ⟨(t, v) :: st.env, h', n1⟩) (kp : ∀ ch h' n1, Post (.pan ch) h' n1 -> Q (.panic ch) ⟨st.env, h', n1⟩) :
  Calls F.P f us.toArray w fun
   | .returned v, w'' => K (a.put o.dst v) w''
   | .panicked chain, w'' => Sq F Q (.panic chain) a w''
   | .outgrown, _ => LetsOut (Sq F Q) := by
 have hH : Held (fun _ => True) st.h μ C w := ⟨fun l k hk => by
  obtain ⟨p, hp, hb⟩ := hs.heap l k hk; exact ⟨p, hp, hb.sz, hb.len, hb.max, hb.row, fun hc => ⟨trivial, (hb.cells hc).2⟩⟩, hs.inj⟩
 refine (hc μ C w us (hG.mono hs.sub) hs.known hH hs.nx hvs).mono ?_; rintro e W' ⟨q, h', n1, μ', C', hpost, hq, hlow, hdom, hn1, hkept, hsub, hnew, hkn, hheld⟩; obtain ⟨s2, hm⟩ := hs.back hn hlow hdom hn1 hkept hsub hnew hkn hheld; cases q with
 | ret r =>
  obtain ⟨v, rfl, hr⟩ := hq; show K (a.put o.dst v) W'; rw [hd]; exact hK _ _ (k r h' n1 hpost μ' C' _ W' (s2.put ht hr))
 | pan ch =>
  have hq : e = .panicked ch := hq; subst hq; exact ⟨_, μ', C', kp ch h' n1 hpost, s2⟩
end
section
variable {F : Fr} {ops rest : zOz} {o : Oper} {Q : zQz} {env : zEz} {h : zHz} {nx : Nat}
theorem dL (hF : Env F P G N) {f : FuncId} {xs : List Operand} {ts : Array TypeId} {t : Tmp} {vs : List V} {Post : Rt -> zHz -> Nat -> Prop} (ho : o.op = .call ⟨.value (.func f), xs.toArray, ts⟩) (hd : o.dst = some t) (hb : cD P f = true) (ht : Nat.blt t N = true)
  (hg : aC ops env o.guard = some true) (hargs : nE (evB G env) xs = some vs) (hn : F.n0 <= nx) (hc : ee P G f h nx vs Post)
  (k : ∀ v h' n1, Post (.ret v) h' n1 -> SmG F N ops rest Q ⟨(t, v) :: env, h', n1⟩) (kp : ∀ ch h' n1, Post (.pan ch) h' n1 -> Q (.panic ch) ⟨env, h', n1⟩) : SmG F N ops (o :: rest) Q ⟨env, h, nx⟩ := by
 intro hsm μ C a w hs; obtain ⟨rfl, rfl, hG⟩ := hF; have ht' : t < F.N := by simpa [Nat.blt_eq] using ht
 have hev : ∀ x v, evB G env x = some v -> ax μ C v (a.eval x) := fun x v h => bW hs hG (by rw [aT] at h; exact h)
 refine cb (fun _ => by rw [ho]; simp) fun K hK => ?_
 rw [bI hs (aN hg) hsm, if_pos rfl]; unfold Oper.wp; have : (execOp a.eval o).run F.P w = .ok (.enter f (xs.map a.eval).toArray) w := by
  have e : execOp a.eval o = callFunc f (#[] ++ xs.toArray.map a.eval ++ #[]) := by
   simp only [execOp, ho]; rfl
  rw [e, fX hb]; simp
 rw [this, Oper.upon_enter]; exact uN hs hG hn hd ht' hc (rQ hev hargs) hK (fun v h' n1 hp => k v h' n1 hp (bJ hsm ht')) kp
theorem uD (hF : Env F P G N) {f : FuncId} {first caps : List Cap} {x : Operand} {xs : List Operand} {ts : Array TypeId} {t : Tmp} {vs : List V} {Post : Rt -> zHz -> Nat -> Prop} (ho : o.op = .call ⟨.value x, xs.toArray, ts⟩) (hd : o.dst = some t) (hb : cD P f = true) (ht : Nat.blt t N = true)
  (hg : aC ops env o.guard = some true) (hx : evB G env x = some (.clo f first caps)) (hargs : nE (evB G env) xs = some vs) (hn : F.n0 <= nx) (hc : ee P G f h nx (first.map Cap.v ++ (vs ++ caps.map Cap.v)) Post)
  (k : ∀ v h' n1, Post (.ret v) h' n1 -> SmG F N ops rest Q ⟨(t, v) :: env, h', n1⟩) (kp : ∀ ch h' n1, Post (.pan ch) h' n1 -> Q (.panic ch) ⟨env, h', n1⟩) : SmG F N ops (o :: rest) Q ⟨env, h, nx⟩ := by
 intro hsm μ C a w hs; obtain ⟨rfl, rfl, hG⟩ := hF; have ht' : t < F.N := by simpa [Nat.blt_eq] using ht
 have hev : ∀ x v, evB G env x = some v -> ax μ C v (a.eval x) := fun x v h => bW hs hG (by rw [aT] at h; exact h)
 refine cb (fun _ => by rw [ho]; simp) fun K hK => ?_
 rw [bI hs (aN hg) hsm, if_pos rfl]; unfold Oper.wp; obtain ⟨us, ws, hfx, h1, h2⟩ := hev x _ hx; have : (execOp a.eval o).run F.P w = .ok (.enter f (us ++ (xs.map a.eval ++ ws)).toArray) w := by
  have e : execOp a.eval o = callFunc f (us.toArray ++ xs.toArray.map a.eval ++ ws.toArray) := by
   simp only [execOp, ho]; show (do let d <- Deferred.ofValue (a.eval x) (xs.toArray.map a.eval); invoke d.target d.args : Sem Next) = _; rw [hfx]; rfl
  rw [e, fX hb]; simp
 rw [this, Oper.upon_enter]; exact uN hs hG hn hd ht' hc (h1.vs.append ((rQ hev hargs).append h2.vs)) hK (fun v h' n1 hp => k v h' n1 hp (bJ hsm ht')) kp
end
end
end
end Go.Proofs.YtaclinnjekdgoaaDoor
