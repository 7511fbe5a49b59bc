/-
  Lemmas, part 7 of 8: walks through the program's functions, and plain Lean about what they compute.
-/
import Derived.RecoverIn
import Derived.RangeFuncRecord
import Derived.MapKept
import Derived.Test.YtaclinnjekdgoaaDoorZ1
import Derived.Test.YtaclinnjekdgoaaDoorZ2
import Derived.Test.YtaclinnjekdgoaaDoorZ3
import Derived.Test.YtaclinnjekdgoaaDoorZ4
import Derived.Test.YtaclinnjekdgoaaDoorZ5
import Derived.Test.YtaclinnjekdgoaaDoorZ6
set_option linter.unnecessarySimpa false
set_option linter.unusedSimpArgs false
set_option linter.unusedVariables false
set_option maxRecDepth 100000
namespace Go.Proofs.YtaclinnjekdgoaaDoor
open Go.RowKit
section
section
variable {P : Program} {G : zGz} {N : Nat} {F : Fr} {ops rest : zOz} {o : Oper} {Q : zQz} {env : zEz} {h : zHz} {nx : Nat}
theorem SmG.panic (hF : Env F P G N) {x : Operand} {T : TypeId} {v : Value} (ho : o.op = .panic x) (hg : aC ops env o.guard = some true) (hx : evB G env x = some (.d (.v (.iface T v)))) (k : Q (.panic [{ v := .iface T v, recovered := false }]) ⟨env, h, nx⟩) : SmG F N ops (o :: rest) Q ⟨env, h, nx⟩ := by
 intro hsm μ C a w hs; obtain ⟨rfl, rfl, hG⟩ := hF; have hev : ∀ x v, evB G env x = some v -> ax μ C v (a.eval x) := fun x v h => bW hs hG (by rw [aT] at h; exact h)
 refine cb (fun _ => by rw [ho]; simp) fun K hK => ?_
 rw [bI hs (aN hg) hsm, if_pos rfl]; unfold Oper.wp; have hv : a.eval x = .iface T v := by
  have := hev x _ hx; generalize a.eval x = u at this ⊢; cases this with | v _ => rfl
 have : (execOp a.eval o).run F.P w = .halt (.panic (.iface T v)) w := by
  simp only [execOp, ho, hv]; rfl
 rw [this, Oper.upon_panic]; exact ⟨_, μ, C, k, hs⟩
theorem Gk (hF : Env F P G N) {x : Operand} {T : TypeId} {fs : Array Field} {t : Tmp} (ho : o.op = .makeInterface T x) (hu : P.underlying T = some (.struct fs)) (hd : o.dst = some t) (ht : Nat.blt t N = true) (hg : aC ops env o.guard = some true) (hx : evB G env x = some (.d (.agg 0 []))) (k : SmG F N ops rest Q ⟨(t, .d (.v (.iface T (.agg #[])))) :: env, h, nx⟩) : SmG F N ops (o :: rest) Q ⟨env, h, nx⟩ := by
 intro hsm μ C a w hs; have hk := k; obtain ⟨rfl, rfl, hG⟩ := hF; have ht' : t < F.N := by simpa [Nat.blt_eq] using ht
 have hev : ∀ x v, evB G env x = some v -> ax μ C v (a.eval x) := fun x v h => bW hs hG (by rw [aT] at h; exact h)
 refine cb (fun _ => by rw [ho]; simp) fun K hK => ?_
 rw [bI hs (aN hg) hsm, if_pos rfl]; unfold Oper.wp; have hv : a.eval x = .agg #[] := by
  have := hev x _ hx; generalize a.eval x = u at this ⊢; cases this with
  | agg _ _ us _ h => cases h; rfl
 have : (execOp a.eval o).run F.P w = .ok (.value (.iface T (.agg #[]))) w := by
  simp only [execOp, ho, hv]; show (do let v <- Instr.makeInterface T (.agg #[]); pure (.value v) : Sem Next).run F.P w = _; unfold Instr.makeInterface; simp only [Sem.run_bind, run_underlying hu, Result.andThen_ok]; rfl
 rw [this, Oper.upon_value, hd]; exact hK _ _ (hk (bJ hsm ht') μ C _ w (hs.put ht' (.v _)))
end
def MN (P : Program) (fn : Func) (r : D) (ch0 : List PanicEntry) : Exit -> St -> Prop
 | .ret, st | .normal, st => ∃ d, kI P st fn.results.toList = some d /\ d.le r
 | .panic ch, st => ch = ch0 /\ ∃ d, kI P st fn.results.toList = some d /\ d.le r
 | _, _ => False
section
variable {P : Program} {G : zGz} {N : Nat}
theorem Sim.regh {F F' : Fr} {st : St} {μ : zMz} {C : aw} {a a' : Act} {w : World} (hs : Sim F st μ C a w) (hP : F'.P = F.P) (hN : F'.N = F.N) (hw : F'.w0 = F.w0) (hC : F'.C0 = F.C0) (ho : F'.own = F.own) (ht : a'.tmps = a.tmps) (hd : Marks F'.df F'.w0.heap.size w a'.defers) (hg : F'.G a'.defers st.h μ C w) : Sim F' st μ C a' w := by
 refine ⟨by rw [ht, hN]; exact hs.size, hd, by rw [ho, hw]; exact hs.below, by rw [hC]; exact hs.sub, ?_, hs.known, by rw [ht]; exact hs.env, ?_, hs.inj, hs.nx, hg⟩
 ·rw [hC, show F'.mine = F.mine by unfold Fr.mine; rw [hw, ho]]; exact hs.new
 ·rw [show F'.mine = F.mine by unfold Fr.mine; rw [hw, ho]]; exact hs.heap
theorem wj {f g : FuncId} {fn : Func} {c0 y : Code} {rid : Nat} {o : Oper} {ts : Array TypeId} {ds : List D} {r : D} {ch0 : List PanicEntry} {st1 : St} (hf : P.funcs[f]? = some fn) (hb : fn.body = some (.seq c0 (.seq (.region rid #[o] false) y))) (hN : fn.ntmps = N) (hp : ds.length <= N)
  (ho : o.op = .defer ⟨.value (.func g), #[], ts⟩) (hog : o.guard = none) (hod : o.dst = none) (hbody : cD P g = true)
  (h0 : ∀ F, Env F P G N -> F.n0 = 0 -> Sm F c0 (fun e st => e = .normal /\ st = st1) ⟨ds.zipIdx.map fun e => (e.2, .d e.1), [], 0⟩)
  (h1 : ∀ F, Env F P G N -> F.n0 = 0 -> Sm F y (MN P fn r ch0) st1)
  (hr : ∀ C w, fK G C -> bG C w -> CallsDIn Fence.wide 0 P g #[] .returning w fun e u' w' => (∃ v, e = .returned v) /\ u' = .returning /\ More w C w' C)
  (hr2 : ∀ C w, fK G C -> bG C w -> CallsDIn Fence.wide 0 P g #[] (.panicking ch0) w fun e u' w' => (∃ v, e = .returned v) /\ settle u' = .returning /\ More w C w' C) : aj P G f ds r := by
 intro C w vs hG hk ha; have hvl : vs.length = ds.length := ja ha
 let F : Fr := ⟨P, N, w, C, fun _ => False, none, 0, [g], fun ds _ _ _ _ => ds = [], fun h _ => h⟩
 let F' : Fr := ⟨P, N, w, C, fun _ => False, none, 0, [g], fun ds _ _ _ _ => ds = [{ target := .fn (.func g) #[], args := #[] }], fun h _ => h⟩
 have hsz : (vs.toArray ++ Array.replicate (fn.ntmps - vs.toArray.size) undef).size = N := by simp; omega
 have hlook : ∀ (ds : List D) (k : Nat) (t : Nat) (x : V), look ((ds.zipIdx k).map fun e => (e.2, V.d e.1)) t = some x -> ∃ d, x = .d d /\ k <= t /\ ds[t - k]? = some d := by
  intro ds
  induction ds with
  | nil => intro k t x h; simp [look] at h
  | cons d ds ih =>
   intro k t x h; simp only [List.zipIdx_cons, List.map_cons, look] at h; split at h
   ·rename_i e; cases h; subst e; exact ⟨d, rfl, Nat.le_refl _, by simp⟩
   ·obtain ⟨d', rfl, h1, h2⟩ := ih _ _ _ h; refine ⟨d', rfl, by omega, ?_⟩; rw [show t - k = (t - (k + 1)) + 1 by omega]; simpa using h2
 have hsim : Sim F ⟨ds.zipIdx.map fun e => (e.2, .d e.1), [], 0⟩ (fun _ => none) C { tmps := vs.toArray ++ Array.replicate (fn.ntmps - vs.toArray.size) undef, defers := [] } w := by
  refine ⟨hsz, .nil _ _, Kept.refl _ _, fun _ _ _ h => h, fun _ _ _ h => .inl h, hk, fun t x hx => ?_, fun l k hk => by simp [look] at hk, fun l l' p p' h => by simp [look] at h, fun _ _ => rfl, rfl⟩; obtain ⟨d, rfl, _, hd⟩ := hlook ds 0 t x hx; rw [Nat.sub_zero] at hd; obtain ⟨v, h1, h2⟩ := nQ ha t d hd; have htl := (List.getElem?_eq_some_iff.1 h1).1; have : (vs.toArray ++ Array.replicate (fn.ntmps - vs.toArray.size) undef).getD t undef = v := by
   rw [Array.getD_eq_getD_getElem?, Array.getElem?_append_left (by simpa using htl)]; simp [h1]
  show Rep C d _; rw [this]; exact h2
 have hinv : ∀ w, (invoke (.fn (.func g) #[]) #[]).run P w = .ok (.enter g #[]) w := fun w => by
  have := fX (P := P) (f := g) hbody #[] w; exact this
 have hleave : ∀ {e : Exit} {st' : St} {μ' : zMz} {C' : aw} {a' : Act} {w' : World} {u : FrameMode}, (∃ d, kI P st' fn.results.toList = some d /\ d.le r) -> Sim F' st' μ' C' a' w' -> (u ≠ .run) ->
   CallsDIn Fence.wide 0 P g #[] u w' (fun e u' w'' => (∃ v, e = .returned v) /\ settle u' = .returning /\ More w' C' w'' C') -> LeavesIn Fence.wide 0 P fn a'.tmps (fun e w' => ∃ v C', e = .returned v /\ More w C w' C' /\ Rep C' r v) a'.defers u w' := by
  intro e st' μ' C' a' w' u ⟨d, hd, hle⟩ hs hu hc; have hds : a'.defers = [{ target := .fn (.func g) #[], args := #[] }] := hs.gh; rw [hds]; refine leavesIn_cons hu (fun h => by cases h) (hinv _) (fun _ _ => trivial) (hc.mono ?_); rintro e u' w'' ⟨⟨v, rfl⟩, hu', hm⟩; simp only; rw [hu']; have hs2 : Sim F' st' μ' C' a' w'' := hs.more hm; have hs3 : Sim F st' μ' C' { a' with defers := [] } w'' := hs2.regh rfl rfl rfl rfl rfl rfl (.nil _ _) rfl; obtain ⟨v, h1, h2⟩ := xa hs3 hd; exact ⟨v, h1, v, C', rfl, ⟨hs3.below.below, hs3.sub, fun b o u h => (hs3.new b o u h).imp id fun h => h.resolve_right (by simp [F]), hs3.known⟩, hle _ _ h2⟩
 refine callsIn_wide.1 (callsIn_of_wp_defers (n := 0) (F := Fence.wide) hf hb trivial ?_); have hw0 := h0 F ⟨rfl, rfl, hG⟩ rfl _ C _ w hsim; refine wpIn_seq (wpIn_mono hw0 ?_); rintro e a w' ⟨st', μ', C', ⟨rfl, rfl⟩, hs⟩; refine wpIn_seq (wpIn_region ?_); have hdf0 : a.defers = [] := hs.gh; have hex : (execOp a.eval o).run P w' = .ok (.defer { target := .fn (.func g) #[], args := #[] }) w' := by
  simp only [execOp, ho, resolve, Array.map_empty]; show (do let d <- Deferred.ofValue (.func (.func g) #[] #[]) #[]; pure (.defer d) : Sem Next).run P w' = _; simp [Deferred.ofValue]
 have hw : Region.wanted o (yielded #[o] a.tmps) = true := by unfold Region.wanted; rw [hog]
 simp only [wpOpsIn, show (#[o] : Array Oper).size = 1 from rfl, List.range_succ, List.range_zero, List.nil_append]; simp only [show (#[o] : Array Oper)[0]? = some o from rfl, hw, if_true]; refine ⟨fun _ _ => trivial, ?_⟩; rw [show Oper.semAt Fence.wide.round a.eval o = execOp a.eval o from rfl, hex, Oper.uponIn_defer, hod]; have hs' : Sim F' st' μ' C' { a with defers := { target := .fn (.func g) #[], args := #[] } :: a.defers } w' := hs.regh rfl rfl rfl rfl rfl rfl ⟨by rw [hdf0]; simp, fun d hd => by rw [hdf0] at hd; simp at hd; subst hd; exact .inl ⟨g, by simp [F'], rfl⟩⟩ (by rw [hdf0]); have hw1 := h1 F' ⟨rfl, rfl, hG⟩ rfl μ' C' _ w' hs'; refine wpIn_mono hw1 ?_; rintro e a2 w2 ⟨st2, μ2, C2, hq, hs2⟩; cases e with
 | normal => exact hleave (e := .normal) hq hs2 (by simp) ((hr C2 w2 (hG.mono hs2.sub) hs2.known).mono fun e u' w'' ⟨h1, h2, h3⟩ => ⟨h1, by rw [h2]; rfl, h3⟩)
 | ret => exact hleave (e := .ret) hq hs2 (by simp) ((hr C2 w2 (hG.mono hs2.sub) hs2.known).mono fun e u' w'' ⟨h1, h2, h3⟩ => ⟨h1, by rw [h2]; rfl, h3⟩)
 | panic ch =>
  obtain ⟨rfl, hq⟩ := hq; exact hleave (e := .ret) hq hs2 (by simp) (hr2 C2 w2 (hG.mono hs2.sub) hs2.known)
 | _ => exact hq.elim
theorem uk (a : Act) (t : Option Tmp) (v : Value) : (a.put t v).tmps.size = a.tmps.size := by
 cases t <;> simp [Act.put]
theorem mj {g : FuncId} {fn : Func} {rid : Nat} {o1 o2 : Oper} {y : Code} {t1 t0 : Nat} {ts : Array TypeId} (hf : P.funcs[g]? = some fn) (hb : fn.body = some (.seq (.region rid #[o1, o2] false) y)) (hN : fn.ntmps = N) (h1 : o1.op = .call ⟨.builtin .recover, #[], ts⟩) (d1 : o1.dst = some t1) (g1 : o1.guard = none)
  (h2 : o2.op = .assign (.tmp t1)) (d2 : o2.dst = some t0) (g2 : o2.guard = none) (ht : t0 < t1 /\ t1 < N) (hres : fn.results = #[]) {u u' : FrameMode} {x : Value}
  (hrec : (∀ (c : Frame) (cs : List Frame), c.mode = u -> recoverD (c :: cs) = some (x, { c with mode := u' } :: cs)) \/ (x = .nilIface /\ u' = u /\ ∀ (c : Frame) (cs : List Frame), c.mode = u -> recoverD (c :: cs) = none))
  (hy : ∀ F, Env F P G N -> F.n0 = 0 -> Sm F y (fun e _ => e = .normal \/ e = .ret) ⟨[(t0, .d (.v x))], [], 0⟩) :
  ∀ C w, fK G C -> bG C w -> CallsDIn Fence.wide 0 P g #[] u w fun e u'' w' => (∃ v, e = .returned v) /\ u'' = u' /\ More w C w' C := by
 intro C w hG hk; refine callsDIn_of_wpSIn hf hb trivial fun c cs hu => ?_
 refine wpSIn_seq (wpSIn_region ?_); have hsz : (Array.replicate (fn.ntmps - (#[] : Array Value).size) undef : Array Value).size = N := by simp [hN]
 generalize ha : ({ tmps := #[] ++ Array.replicate (fn.ntmps - (#[] : Array Value).size) undef, defers := [] } : Act) = a; have hsa : a.tmps.size = N := by rw [<- ha]; simpa using hsz
 have hda : a.defers = [] := by rw [<- ha]
 obtain ⟨l0, l1⟩ := ht; have w1 : ∀ a : Act, Region.wanted o1 (yielded #[o1, o2] a.tmps) = true := fun a => by unfold Region.wanted; rw [g1]
 have w2 : ∀ a : Act, Region.wanted o2 (yielded #[o1, o2] a.tmps) = true := fun a => by unfold Region.wanted; rw [g2]
 have e1 : (execOp a.eval o1).run P w = .ok .recover w := by
  simp only [execOp, h1, resolve, Array.map_empty]; rfl
 have e2 : ∀ v : Value, (execOp (a.put (some t1) v).eval o2).run P w = .ok (.value v) w := fun v => by
  simp only [execOp, h2]; have : (a.put (some t1) v).eval (.tmp t1) = v := by
   show (a.put (some t1) v).tmps.getD t1 undef = v; rw [gJ a t1 t1 v (by rw [hsa]; exact l1), if_pos rfl]
  rw [this]; rfl
 have hfin : ∀ cs' : List Frame, cs' = { c with mode := u' } :: cs -> (y.wpSIn Fence.wide 0 P (bodyPostS P fn c cs fun e u'' w' => (∃ v, e = .returned v) /\ u'' = u' /\ More w C w' C) ((a.put (some t1) x).put (some t0) x) cs' w) := by
  rintro cs' rfl
  let F : Fr := ⟨P, N, w, C, fun _ => False, none, 0, [], fun ds _ _ _ _ => ds = [], fun h _ => h⟩
  have hs : Sim F ⟨[(t0, .d (.v x))], [], 0⟩ (fun _ => none) C ((a.put (some t1) x).put (some t0) x) w := by
   refine ⟨by simp [Act.put, hsa, F], by show Marks _ _ _ a.defers; rw [hda]; exact .nil _ _, Kept.refl _ _, fun _ _ _ h => h, fun _ _ _ h => .inl h, hk, fun t v hv => ?_, fun l k hk => by simp [look] at hk, fun l l' p p' h => by simp [look] at h, fun _ _ => rfl, hda⟩; simp only [look] at hv; split at hv
   ·rename_i e; subst e; cases hv; rw [gJ _ t0 t0 x (by rw [uk, hsa]; exact (show t0 < N by omega)), if_pos rfl]; exact Rp.v x
   ·cases hv
  have hw := hy F ⟨rfl, rfl, hG⟩ rfl _ C _ w hs; refine wpSIn_of_wpIn rfl (wpIn_mono hw ?_); rintro e a2 w2 ⟨st2, μ2, C2, hq, hs2⟩; have hm : More w C w2 C := .of_below hk hs2.below.below; have hd : a2.defers = [] := hs2.gh; have hrun : (results fn a2.tmps).run P w2 = .ok (.tuple #[]) w2 := by
   simp [results, hres]
  rcases hq with rfl | rfl
  ·exact ⟨hd, u', rfl, _, hrun, ⟨_, rfl⟩, rfl, hm⟩
  ·exact ⟨hd, u', rfl, _, hrun, ⟨_, rfl⟩, rfl, hm⟩
 simp only [wpOpsSIn, show (#[o1, o2] : Array Oper).size = 2 from rfl, List.range_succ, List.range_zero, List.nil_append, List.cons_append]; simp only [show (#[o1, o2] : Array Oper)[0]? = some o1 from rfl, show (#[o1, o2] : Array Oper)[1]? = some o2 from rfl, w1, w2, if_true, e1, d1, d2]; refine ⟨fun _ _ => trivial, ?_⟩; rcases hrec with hrec | ⟨rfl, rfl, hrec⟩
 ·rw [hrec c cs hu]; simp only [e2]; exact ⟨fun _ _ => trivial, hfin _ rfl⟩
 ·rw [hrec c cs hu]; simp only [e2]; exact ⟨fun _ _ => trivial, hfin _ (by subst hu; rfl)⟩
end
end
section
def DT : Value := .iface 75 (.agg #[])
def ii : List PanicEntry := [{ v := DT, recovered := false }]
def LB (b : Bool) (h : zHz) (n : Nat) (q : Rt) (h' : zHz) (n1 : Nat) : Prop :=
 h' = h /\ n1 = n /\ ((b = true /\ q = .ret (.d (.tup []))) \/ (b = false /\ q = .pan ii))
theorem Fo (b : Bool) (h : zHz) (n : Nat) : ee Tryd.prog HG 53 h n [.d (.v (.bool b))] (LB b h n) := by
 cases b
 ·refine ee.of Tryd.func53 rfl Tryd.ntmps53 (by simp) ?_; intro F hF h0 hT; simp only [List.zipIdx_cons, List.zipIdx_nil, List.map_cons, List.map_nil, Nat.zero_add, Nat.reduceAdd]; refine Sm.seq ?_; refine ab hF rfl ?_; refine gv hF oM ?_; refine gv hF (eM rfl rfl (by first | exact gj _ | exact tf _ | exact su _)) ?_; refine SmG.nil (aa ?_); refine aZ hF rfl ?_; refine ab hF rfl ?_; refine gv hF (cZ rfl Tryd.underlying75 (by kernel_rfl) rfl ME) ?_; refine Gk hF rfl Tryd.underlying75 rfl rfl rfl rfl ?_; refine SmG.panic hF rfl rfl rfl ?_; exact ⟨rfl, rfl, .inr ⟨rfl, rfl⟩⟩
 ·refine ee.of Tryd.func53 rfl Tryd.ntmps53 (by simp) ?_; intro F hF h0 hT; simp only [List.zipIdx_cons, List.zipIdx_nil, List.map_cons, List.map_nil, Nat.zero_add, Nat.reduceAdd]; refine Sm.seq ?_; refine ab hF rfl ?_; refine gv hF oM ?_; refine gv hF (eM rfl rfl (by first | exact gj _ | exact tf _ | exact su _)) ?_; refine SmG.nil (aa ?_); refine aS hF rfl ?_; refine Sm.skip ?_; exact ⟨_, _, .inl rfl, V.le.refl _, rfl, rfl, .inl ⟨rfl, rfl⟩⟩
end
section
section
variable {N : Nat} {F : Fr} {ops rest : zOz} {o : Oper} {Q : zQz} {env : zEz} {h : zHz} {nx : Nat}
theorem vD (hF : Env F Tryd.prog HG N) {x : Operand} {ts : Array TypeId} {t : Tmp} (ho : o.op = .call ⟨.value (.func 53), #[x], ts⟩) (hd : o.dst = some t) (ht : Nat.blt t N = true) (hg : aC ops env o.guard = some true) (hx : evB HG env x = some (.d (.v (.bool true)))) (hn : F.n0 <= nx)
  (k : SmG F N ops rest Q ⟨(t, .d (.tup [])) :: env, h, nx⟩) : SmG F N ops (o :: rest) Q ⟨env, h, nx⟩ := by
 refine dL hF (xs := [x]) ho hd (by kernel_rfl) ht hg (by simp only [nE, hx]; rfl) hn (Fo _ _ _) ?_ ?_
 ·rintro v h' n1 ⟨rfl, rfl, ⟨_, e⟩ | ⟨e, _⟩⟩
  ·cases e; exact k
  ·cases e
 ·rintro v h' n1 ⟨rfl, rfl, ⟨_, e⟩ | ⟨e, _⟩⟩
  ·cases e
  ·cases e
theorem qL (hF : Env F Tryd.prog HG N) {x : Operand} {ts : Array TypeId} {t : Tmp} (ho : o.op = .call ⟨.value (.func 53), #[x], ts⟩) (hd : o.dst = some t) (ht : Nat.blt t N = true) (hg : aC ops env o.guard = some true) (hx : evB HG env x = some (.d (.v (.bool false)))) (hn : F.n0 <= nx)
  (k : Q (.panic ii) ⟨env, h, nx⟩) : SmG F N ops (o :: rest) Q ⟨env, h, nx⟩ := by
 refine dL hF (xs := [x]) ho hd (by kernel_rfl) ht hg (by simp only [nE, hx]; rfl) hn (Fo _ _ _) ?_ ?_
 ·rintro v h' n1 ⟨rfl, rfl, ⟨e, _⟩ | ⟨_, e⟩⟩
  ·cases e
  ·cases e
 ·rintro v h' n1 ⟨rfl, rfl, ⟨e, _⟩ | ⟨_, e⟩⟩
  ·cases e
  ·cases e; exact k
end
section
variable {N : Nat} {F : Fr} {ops rest : zOz} {o : Oper} {Q : zQz} {env : zEz} {h : zHz} {nx : Nat}
theorem tb (hF : Env F Tryd.prog HG N) {x : Operand} {ts : Array TypeId} {t : Tmp} {b : Bool} (ho : o.op = .call ⟨.value (.func 53), #[x], ts⟩) (hd : o.dst = some t) (ht : Nat.blt t N = true) (hg : aC ops env o.guard = some true) (hx : evB HG env x = some (.d (.v (.bool b)))) (hn : F.n0 <= nx)
  (kp : b = false -> Q (.panic ii) ⟨env, h, nx⟩) (k : b = true -> SmG F N ops rest Q ⟨(t, .d (.tup [])) :: env, h, nx⟩) : SmG F N ops (o :: rest) Q ⟨env, h, nx⟩ := by
 cases b
 ·exact qL hF ho hd ht hg hx hn (kp rfl)
 ·exact vD hF ho hd ht hg hx hn (k rfl)
end
def rdB (l : zBz) : Blk := ⟨1, [[.d (.list 1 (l.map ai) false)]]⟩
def Iq (l : zBz) (r : Nat) (h : zHz) (n0 : Nat) (n : Int) (q : Rt) (h' : zHz) (n1 : Nat) : Prop :=
 n1 = n0 /\ ((0 <= n /\ n <= l.length /\ q = .ret (.d (.list 1 ((l.take n.toNat).map ai) false)) /\ h' = rep h r (rdB (l.drop n.toNat))) \/ ((n < 0 \/ (l.length : Int) < n) /\ q = .pan ii /\ h' = h))
theorem we (l : zBz) (r : Nat) (h : zHz) (n0 : Nat) (n : Int) (hl : look h r = some (rdB l)) : ee Tryd.prog HG 54 h n0 [.ref r 0 0, .d (.v (.int .i64 n))] (Iq l r h n0 n) := by
 unfold rdB at hl; by_cases hn : n < 0
 ·refine ee.of Tryd.func54 rfl Tryd.ntmps54 (by simp) ?_; intro F hF h0 hT; simp only [List.zipIdx_cons, List.zipIdx_nil, List.map_cons, List.map_nil, Nat.zero_add, Nat.reduceAdd]; refine Sm.seq ?_; refine ab hF rfl ?_; refine gv hF oA (SmG.nil (aa (Sm.seq ?_))); refine ab hF rfl ?_; refine gv hF oM ?_; refine gv hF (ah rfl rfl rfl (by exact pK _ _ _ _ _ (by omega))) ?_; refine gv hF oM ?_; refine gp hF ?_; refine gp hF ?_; refine gp hF ?_; refine gp hF ?_; refine gp hF ?_; refine gp hF ?_; refine gp hF ?_; refine gv hF (aU rfl rfl rfl) ?_; refine qL hF rfl rfl rfl rfl rfl (Nat.le_of_eq h0) ?_; exact ⟨rfl, .inr ⟨.inl hn, rfl, rfl⟩⟩
 by_cases hn2 : (l.length : Int) < n
 ·obtain ⟨k, rfl⟩ : ∃ k : Nat, n = k := ⟨n.toNat, by omega⟩
  refine ee.of Tryd.func54 rfl Tryd.ntmps54 (by simp) ?_; intro F hF h0 hT; simp only [List.zipIdx_cons, List.zipIdx_nil, List.map_cons, List.map_nil, Nat.zero_add, Nat.reduceAdd]; refine Sm.seq ?_; refine ab hF rfl ?_; refine gv hF oA (SmG.nil (aa (Sm.seq ?_))); refine ab hF rfl ?_; refine gv hF oM ?_; refine gv hF (ah rfl rfl rfl (by exact pL _ _ _ _ _ (by omega))) ?_; refine gv hF oM ?_; refine gv hF oM ?_; refine gv hF oM ?_; refine gv hF (bt rfl rfl) ?_; refine gv hF (ag rfl rfl (by simp (disch := omega) only [go_sem] <;> rfl)) ?_; refine gv hF (ae rfl rfl (by simp (disch := omega) only [go_sem, hl] <;> rfl)) ?_; refine gv hF (aJ rfl rfl (by simp (disch := omega) only [go_sem] <;> rfl)) ?_; refine gv hF (ah rfl rfl rfl (by exact wX _ _ _ _ _ (by omega))) ?_; refine gv hF (aO rfl rfl rfl) ?_; refine qL hF rfl rfl rfl rfl rfl (Nat.le_of_eq h0) ?_; exact ⟨rfl, .inr ⟨.inr hn2, rfl, rfl⟩⟩
 obtain ⟨k, rfl⟩ : ∃ k : Nat, n = k := ⟨n.toNat, by omega⟩
 have hk : k <= l.length := by omega
 refine ee.of Tryd.func54 rfl Tryd.ntmps54 (by simp) ?_; intro F hF h0 hT; simp only [List.zipIdx_cons, List.zipIdx_nil, List.map_cons, List.map_nil, Nat.zero_add, Nat.reduceAdd]; refine Sm.seq ?_; refine ab hF rfl ?_; refine gv hF oA (SmG.nil (aa (Sm.seq ?_))); refine ab hF rfl ?_; refine gv hF oM ?_; refine gv hF (ah rfl rfl rfl (by exact pL _ _ _ _ _ (by omega))) ?_; refine gv hF oM ?_; refine gv hF oM ?_; refine gv hF oM ?_; refine gv hF (bt rfl rfl) ?_; refine gv hF (ag rfl rfl (by simp (disch := omega) only [go_sem] <;> rfl)) ?_; refine gv hF (ae rfl rfl (by simp (disch := omega) only [go_sem, hl] <;> rfl)) ?_; refine gv hF (aJ rfl rfl (by simp (disch := omega) only [go_sem] <;> rfl)) ?_; refine gv hF (ah rfl rfl rfl (by exact te _ _ _ _ _ (by omega))) ?_; refine gv hF (aO rfl rfl rfl) ?_; refine vD hF rfl rfl rfl rfl rfl (Nat.le_of_eq h0) ?_; refine SmG.nil (aa (Sm.seq ?_)); refine ab hF rfl ?_; refine gv hF oM ?_; refine gv hF (bt rfl rfl) ?_; refine gv hF (ag rfl rfl (by simp (disch := omega) only [go_sem] <;> rfl)) ?_; refine gv hF (ae rfl rfl (by simp (disch := omega) only [go_sem, hl] <;> rfl)) ?_; refine gv hF oM ?_; refine gv hF (bC rfl rfl rfl rfl rfl (by simp (disch := omega) only [go_sem, Nat.reduceEqDiff, aE, hl, List.map_take, List.map_drop] <;> rfl)) ?_; refine gv hF oA (SmG.nil (aa (Sm.seq ?_))); refine ab hF rfl ?_; refine gv hF oM (gv hF oM ?_); refine gv hF (bt rfl rfl) ?_; refine gv hF (ag rfl rfl (by simp (disch := omega) only [go_sem] <;> rfl)) ?_; refine gv hF (ae rfl rfl (by simp (disch := omega) only [go_sem, hl] <;> rfl)) ?_; refine gv hF oM ?_; refine gv hF (bC rfl rfl rfl rfl rfl (by simp (disch := omega) only [go_sem, Nat.reduceEqDiff, aE, hl, List.map_take, List.map_drop] <;> rfl)) ?_; refine gv hF (bt rfl rfl) ?_; refine gv hF (ag rfl rfl (by simp (disch := omega) only [go_sem] <;> rfl)) ?_; refine SmG.store hF rfl rfl rfl rfl rfl (by simp (disch := omega) only [go_sem, hl] <;> rfl) ?_; refine SmG.nil (aa (Sm.seq ?_)); refine ab hF rfl ?_
 refine gv hF oM (gv hF oA (SmG.nil (aa (Sm.ret ?_)))); exact ⟨_, _, .inl rfl, V.le.refl _, rfl, .inl ⟨by omega, by omega, by simp, by simp [rdB]⟩⟩
theorem wm {env env' : zEz} {h : zHz} {n : Nat} (h1 : leE env env') : St.le ⟨env, h, n⟩ ⟨env', h, n⟩ := ⟨qF h1, fun _ _ h => h, Nat.le_refl _⟩
def be (l : zBz) : Nat := l.foldl (fun n x => n * 256 + x.toNat) 0
theorem IR (l : zBz) (x : UInt8) : be (l ++ [x]) = be l * 256 + x.toNat := by simp [be]
theorem BO {l : zBz} {k : Nat} {x : UInt8} (h : l[k]? = some x) : be (l.take (k + 1)) = be (l.take k) * 256 + x.toNat := by
 rw [List.take_add_one, h]; exact IR _ _
theorem LJ : ∀ (k : Nat) (l : zBz), l.length = k -> be l < 256 ^ k := by
 intro k
 induction k with
 | zero => intro l h; have : l = [] := List.eq_nil_of_length_eq_zero h; subst this; simp [be]
 | succ k ih =>
  intro l h; obtain ⟨x, hx⟩ : ∃ x, l[k]? = some x := ⟨l[k], by simp⟩
  have e : l = l.take (k + 1) := by rw [List.take_of_length_le (by omega)]
  rw [e, BO hx, Nat.pow_succ]; have := ih (l.take k) (by simp; omega); have hb := x.toNat_lt; omega
theorem JM (P : Program) (t : TypeId) (x y : Operand) (p : Nat) (k2 : IntKind) (hp : p < 16777216) : aD P (do eqGuard .shl t x y (.int .i64 p) (.int k2 8); binOp .shl t (.int .i64 p) (.int k2 8)) = some (.int .i64 ((p * 256 : Nat) : Int)) := by
 have e : (2 : Int) ^ (min (8 : Int).toNat IntKind.i64.bits) = 256 := by decide
 rw [At P t x y .i64 p 8 k2 (by omega), e, aY _ (by omega)]; simp
theorem or8 (p c : Nat) (hp : p < 16777216) (hc : c < 256) : orI .i64 ((p * 256 : Nat) : Int) (c : Int) = ((p * 256 + c : Nat) : Int) := by
 unfold orI; have e1 : (BitVec.ofInt IntKind.i64.bits ((p * 256 : Nat) : Int) ||| BitVec.ofInt IntKind.i64.bits (c : Int)).toNat = p * 256 + c := by
  show (BitVec.ofInt 64 _ ||| BitVec.ofInt 64 _).toNat = _; rw [BitVec.ofInt_natCast, BitVec.ofInt_natCast, BitVec.toNat_or, BitVec.toNat_ofNat, BitVec.toNat_ofNat, Nat.mod_eq_of_lt (by omega), Nat.mod_eq_of_lt (by omega)]; rw [show p * 256 = p <<< 8 by rw [Nat.shiftLeft_eq]]; exact (Nat.shiftLeft_add_eq_or_of_lt (by omega) _).symm
 rw [e1]; exact aY _ (by omega)
def Km (l : zBz) (r : Nat) (h : zHz) (n0 : Nat) (q : Rt) (h' : zHz) (n1 : Nat) : Prop :=
 n1 = n0 /\ ((4 <= l.length /\ q = .ret (.d (.v (.int .i64 (be (l.take 4))))) /\ h' = rep h r (rdB (l.drop 4))) \/ (l.length < 4 /\ q = .pan ii /\ h' = h))
theorem kD (l : zBz) (r : Nat) (h : zHz) (n0 : Nat) (hl : look h r = some (rdB l)) : ee Tryd.prog HG 55 h n0 [.ref r 0 0] (Km l r h n0) := by
 refine ee.of Tryd.func55 rfl Tryd.ntmps55 (by simp) ?_; intro F hF h0 hT; simp only [List.zipIdx_cons, List.zipIdx_nil, List.map_cons, List.map_nil, Nat.zero_add, Nat.reduceAdd]; refine Sm.seq ?_; refine ab hF rfl ?_; refine gv hF oA (SmG.nil (aa (Sm.seq ?_))); refine ab hF rfl ?_; refine gv hF oA (SmG.nil (aa (Sm.seq (Sm.seq ?_)))); refine ab hF rfl ?_; refine gv hF oM ?_; refine dL hF (xs := [_, _]) rfl rfl (by kernel_rfl) rfl rfl rfl (Nat.le_of_eq h0) (we l r h n0 4 hl) ?_ ?_
 ·rintro v h' n1 ⟨rfl, ⟨_, hle, e, rfl⟩ | ⟨_, e, _⟩⟩
  ·cases e; have hle : 4 <= l.length := by omega
   generalize hH : rep h r (rdB (l.drop (4 : Int).toNat)) = H; generalize hl4 : l.take (4 : Int).toNat = l4; have h4 : l4.length = 4 := by rw [<- hl4]; simp; omega
   refine gv hF (aJ rfl rfl (by simp (disch := omega) only [go_sem] <;> rfl)) ?_; refine gv hF oM (SmG.nil (aa (Sm.block ?_))); refine Sm.loop (ι := {k : Nat // k <= 4}) (fun k => ⟨[(3, .d (.v (.int .i64 (be (l4.take k.1))))), (7, .d (.list 1 (l4.map ai) false)), (8, .d (.v (.int .i64 l4.length))), (9, .d (.v (.int .i64 k.1)))], H, n1⟩) (fun k => 4 - k.1) (⟨0, by omega⟩) ?_ ?_
   ·exact wm ⟨rfl, rfl, by simp [look], rfl, trivial⟩
   rintro ⟨k, hk⟩; simp only; by_cases hlt : k < 4
   ·obtain ⟨x, hk'⟩ : ∃ x, l4[k]? = some x := ⟨l4[k], by simp⟩
    have hb := x.toNat_lt; have hp := LJ k (l4.take k) (by simp; omega); have hp4 : 256 ^ k <= 256 ^ 3 := Nat.pow_le_pow_right (by omega) (by omega); have hp2 : be (l4.take k) < 16777216 := by omega
    have hbe := BO hk'; have hor := or8 _ _ hp2 hb; refine Sm.seq ?_; refine ab hF rfl ?_; refine gv hF (ah rfl rfl rfl (by exact eu _ _ _ _ _ (by omega))) ?_; refine SmG.nil (aa (Sm.seq ?_)); refine aZ hF rfl ?_; refine Sm.skip ?_; refine aa (Sm.seq (Sm.block (Sm.seq ?_))); refine ab hF rfl ?_; refine gv hF (ak rfl rfl rfl (by simp (disch := omega) only [go_sem, hk'] <;> rfl)) ?_; refine gv hF (ae rfl rfl (by simp (disch := omega) only [go_sem] <;> rfl)) ?_; refine gv hF oA (SmG.nil (aa ?_)); refine ab hF rfl ?_; refine gv hF oM ?_; refine gv hF (ah rfl rfl rfl (JM _ _ _ _ _ _ (by omega))) ?_; refine gv hF oM ?_; refine gv hF (cB rfl rfl (by exact fh rfl rfl (aY _ (by omega)))) ?_; refine gv hF (ah rfl rfl rfl (by rw [II, hor, <- hbe])) ?_; refine gv hF oA (SmG.nil (aI (aa ?_))); refine ab hF rfl ?_; refine gv hF (ah rfl rfl rfl (by exact eN _ _ _ _ _ (aY _ (by omega)))) ?_; refine gv hF oM (SmG.nil (aa ?_)); exact ⟨⟨k + 1, by omega⟩, by show 4 - (k + 1) < 4 - k; omega, wm ⟨rfl, rfl, rfl, rfl, trivial⟩⟩
   ·have hk4 : k = 4 := by omega
    subst hk4; refine Sm.seq ?_; refine ab hF rfl ?_; refine gv hF (ah rfl rfl rfl (by exact eR _ _ _ _ _ (by omega))) ?_; refine SmG.nil (aa (Sm.seq ?_)); refine aS hF rfl ?_; refine Sm.exit ?_; simp only [ba, bR, reduceIte, reduceCtorEq]; refine Sm.seq ?_; refine ab hF rfl ?_; refine gv hF oM (gv hF oA (SmG.nil (aa (Sm.ret ?_)))); exact ⟨_, _, .inl rfl, V.le.refl _, rfl, .inl ⟨hle, by rw [List.take_of_length_le (by omega), <- hl4]; rfl, hH.symm⟩⟩
  ·cases e
 ·rintro v h' n1 ⟨rfl, ⟨_, hle, e, rfl⟩ | ⟨hn, e, rfl⟩⟩
  ·cases e
  ·cases e; exact ⟨rfl, .inr ⟨by omega, rfl, rfl⟩⟩
theorem Mf (l : zBz) (r : Nat) (h : zHz) (n0 : Nat) (hl : look h r = some (rdB l)) : ee Tryd.prog HG 57 h n0 [.ref r 0 0] (Iq l r h n0 32) := by
 refine ee.of Tryd.func57 rfl Tryd.ntmps57 (by simp) ?_; intro F hF h0 hT; simp only [List.zipIdx_cons, List.zipIdx_nil, List.map_cons, List.map_nil, Nat.zero_add, Nat.reduceAdd]; refine Sm.seq ?_; refine ab hF rfl ?_; refine gv hF oA (SmG.nil (aa (Sm.seq ?_))); refine ab hF rfl ?_; refine gv hF oM ?_; refine dL hF (xs := [_, _]) rfl rfl (by kernel_rfl) rfl rfl rfl (Nat.le_of_eq h0) (we l r h n0 32 hl) ?_ ?_
 ·rintro v h' n1 ⟨rfl, ⟨h1, hle, e, rfl⟩ | ⟨_, e, _⟩⟩
  ·cases e; refine gv hF oA (SmG.nil (aa (Sm.ret ?_))); exact ⟨_, _, .inl rfl, V.le.refl _, rfl, .inl ⟨h1, hle, rfl, rfl⟩⟩
  ·cases e
 ·intro ch h' n1 hP; exact hP
def LA (l : zBz) (r : Nat) (h : zHz) (n0 : Nat) (q : Rt) (h' : zHz) (n1 : Nat) : Prop :=
 n1 = n0 /\ ((4 <= l.length /\ be (l.take 4) <= l.length - 4 /\ q = .ret (.d (.list 1 (((l.drop 4).take (be (l.take 4))).map ai) false)) /\ look h' r = some (rdB ((l.drop 4).drop (be (l.take 4)))) /\ ∀ m, m ≠ r -> look h' m = look h m) \/ ((l.length < 4 \/ l.length - 4 < be (l.take 4)) /\ q = .pan ii /\ ∀ m, m ≠ r -> look h' m = look h m))
theorem Kt (l : zBz) (r : Nat) (h : zHz) (n0 : Nat) (hl : look h r = some (rdB l)) : ee Tryd.prog HG 56 h n0 [.ref r 0 0] (LA l r h n0) := by
 refine ee.of Tryd.func56 rfl Tryd.ntmps56 (by simp) ?_; intro F hF h0 hT; simp only [List.zipIdx_cons, List.zipIdx_nil, List.map_cons, List.map_nil, Nat.zero_add, Nat.reduceAdd]; refine Sm.seq ?_; refine ab hF rfl ?_; refine gv hF oA (SmG.nil (aa (Sm.seq ?_))); refine ab hF rfl ?_; refine gv hF oM (gv hF oM ?_); refine dL hF (xs := [_]) rfl rfl (by kernel_rfl) rfl rfl rfl (Nat.le_of_eq h0) (kD l r h n0 hl) ?_ ?_
 ·rintro v h' n1 ⟨rfl, ⟨h4, e, rfl⟩ | ⟨_, e, _⟩⟩
  ·cases e; have hl2 : look (rep h r (rdB (l.drop 4))) r = some (rdB (l.drop 4)) := by rw [cg, if_pos rfl, hl]; rfl
   have hdl : (l.drop 4).length = l.length - 4 := by simp
   refine dL hF (xs := [_, _]) rfl rfl (by kernel_rfl) rfl rfl rfl (Nat.le_of_eq h0) (we (l.drop 4) r _ _ _ hl2) ?_ ?_
   ·rintro v h' n1 ⟨rfl, ⟨_, hle, e, rfl⟩ | ⟨_, e, _⟩⟩
    ·cases e; rw [hdl] at hle; refine gv hF oA (SmG.nil (aa (Sm.ret ?_))); refine ⟨_, _, .inl rfl, V.le.refl _, rfl, .inl ⟨h4, by omega, by simp, ?_, fun m hm => ?_⟩⟩
     ·rw [cg, if_pos rfl, hl2]; simp
     ·rw [cg, if_neg hm, cg, if_neg hm]
    ·cases e
   ·rintro v h' n1 ⟨rfl, ⟨_, hle, e, rfl⟩ | ⟨hn, e, rfl⟩⟩
    ·cases e
    ·cases e; rw [hdl] at hn; exact ⟨rfl, .inr ⟨.inr (by omega), rfl, fun m hm => by rw [cg, if_neg hm]⟩⟩
  ·cases e
 ·rintro v h' n1 ⟨rfl, ⟨_, e, rfl⟩ | ⟨hn, e, rfl⟩⟩
  ·cases e
  ·cases e; exact ⟨rfl, .inr ⟨.inl hn, rfl, fun _ _ => rfl⟩⟩
end
section
section
variable {P : Program} {G : zGz} {N : Nat} {F : Fr} {ops : Array Oper} {rest : zOz} {o : Oper} {Q : zQz} {st : St}
end
section
variable {P : Program} {G : zGz} {N : Nat} {F : Fr} {ops rest : zOz} {o : Oper} {Q : zQz} {env : zEz} {h : zHz} {nx : Nat}
end
end
section
section
variable {P : Program} {mt kt et : TypeId} {kk kk' : IntKind}
theorem zM {n : Int} : ∀ (es : List MapEntry) (i : Nat), (∀ e ∈ es, ∃ m, e.key = .int kk m /\ m ≠ n) -> Instr.findNow (.int kk') (.int kk n) es i = some none := by
 intro es
 induction es with
 | nil => intro i _; rfl
 | cons e es ih =>
  intro i h; obtain ⟨m, hm, hne⟩ := h e (by simp); unfold Instr.findNow; rw [hm]; have : (n == m) = false := by simpa using fun e => hne e.symm
  simp only [Instr.sameNow, if_true, this]; exact ih _ fun e he => h e (by simp [he])
theorem pM (hu : P.underlying mt = some (.map kt et)) (hkt : P.underlying kt = some (.int kk')) {w : World} {r : Nat} {es : Array MapEntry} {clock : Nat} (hb : w.heap[r]? = some (.map es clock)) {n : Int} {value : Value} (hnew : ∀ e ∈ es.toList, ∃ m, e.key = .int kk m /\ m ≠ n) :
  (Instr.mapUpdate mt (.map (some r)) (.int kk n) value).run P w = .ok () (w.putObj r (.map (es.push ⟨.int kk n, value, clock⟩) (clock + 1))) := by
 have hget : (getObj r).run P w = .ok (.map es clock) w := by simp [getObj, Sem.run, hb]
 have hchk : (Instr.checkKey false 10000 kt (.int kk n)).run P w = .ok () w := by
  unfold Instr.checkKey; simp [Sem.run_bind, run_underlying hkt, Result.andThen]
 have hfind : (Instr.findKey kt (.int kk n) es.toList).run P w = .ok none w := by
  unfold Instr.findKey; simp [Sem.run_bind, run_underlying hkt, Result.andThen, zM es.toList 0 hnew]
 unfold Instr.mapUpdate; simp only [Sem.run_bind, run_underlying hu, Result.andThen_ok, hget, hchk, hfind]; exact MapKept.run_setObj_map _ hb
end
section
variable {P : Program} {G : zGz} {N : Nat} {F : Fr} {ops rest : zOz} {o : Oper} {Q : zQz} {st : St} {mt kt et : TypeId} {kk kk' : IntKind}
end
end
section
section
variable {F : Fr} {P : Program} {ops : Array Oper} {rest : zOz} {o : Oper} {a : Act} {w w' : World} {Q : Exit -> Act -> World -> Prop}
theorem gC {v : Value} (hnd : ∀ c, o.op ≠ .defer c) (hg : o.guard = none) (hex : (execOp a.eval o).run P w = .ok (.value v) w') (k : wpListIn F.fz 0 P ops Q rest (a.put o.dst v) w') : wpListIn F.fz 0 P ops Q (o :: rest) a w := by
 refine cb (fun _ => hnd) fun K hK => ?_
 have hw : Region.wanted o (yielded ops a.tmps) = true := by unfold Region.wanted; rw [hg]
 rw [hw, if_pos rfl]; unfold Oper.wp; rw [hex, Oper.upon_value]; exact hK _ _ k
theorem wc (hnd : ∀ c, o.op ≠ .defer c) (hg : o.guard = none) (hd : o.dst = none) (hex : (execOp a.eval o).run P w = .ok .skip w') (k : wpListIn F.fz 0 P ops Q rest a w') : wpListIn F.fz 0 P ops Q (o :: rest) a w := by
 refine cb (fun _ => hnd) fun K hK => ?_
 have hw : Region.wanted o (yielded ops a.tmps) = true := by unfold Region.wanted; rw [hg]
 rw [hw, if_pos rfl]; unfold Oper.wp; rw [hex, Oper.upon_skip, hd]; exact hK _ _ k
theorem JA {a : Act} {t s : Tmp} {v : Value} (ht : t < a.tmps.size) : (a.put (some t) v).eval (.tmp s) = if s = t then v else a.eval (.tmp s) := gJ a t s v ht
end
section
variable {P : Program} {G : zGz} {N : Nat} {F : Fr} {ops rest : zOz} {Q : zQz} {env : zEz} {h : zHz} {nx : Nat} {mt kt et : TypeId} {kk : IntKind}
theorem Sim.putAny {st : St} {μ : zMz} {C : aw} {a : Act} {w : World} (hs : Sim F st μ C a w) {t : Nat} {v : Value} (ht : look st.env t = none) (htN : t < F.N) : Sim F st μ C (a.put (some t) v) w := by
 refine ⟨by rw [uk]; exact hs.size, hs.defers, hs.below, hs.sub, hs.new, hs.known, fun s x hx => ?_, hs.heap, hs.inj, hs.nx, hs.gh⟩; have hne : s ≠ t := fun e => by rw [e, ht] at hx; cases hx
 rw [gJ a t s v (by rw [hs.size]; exact htN), if_neg hne]; exact hs.env s x hx
def qX (f g : FuncId) (n1 n2 k : Int) (r : Nat) : V := if k = n1 then .clo f [.r r 0] [] else if k = n2 then .clo g [.r r 0] [] else .d (.v .nilFunc)
theorem HU {kk kk' : IntKind} {n1 n2 k : Int} {v1 v2 : Value} {es : List MapEntry} (hk : es.map (·.key) = [.int kk n1, .int kk n2]) (hv : es.map (·.val) = [v1, v2]) :
  Instr.findNow (.int kk') (.int kk k) es 0 = some (if k = n1 then some (0, v1) else if k = n2 then some (1, v2) else none) := by
 rcases es with _ | ⟨e1, _ | ⟨e2, _ | ⟨e3, es⟩⟩⟩ <;> simp at hk hv
 obtain ⟨h1, h2⟩ := hk; obtain ⟨g1, g2⟩ := hv; unfold Instr.findNow Instr.findNow Instr.findNow; rw [h1, h2, g1, g2]; simp only [Instr.sameNow, if_true]; by_cases e1 : k = n1
 ·subst e1; simp
 ·have b1 : (k == n1) = false := by simpa using e1
  by_cases e2 : k = n2
  ·subst e2; simp [e1, b1]
  ·have b2 : (k == n2) = false := by simpa using e2
   simp [e1, e2, b1, b2]
theorem JU {kk' : IntKind} (hu : P.underlying mt = some (.map kt et)) (hkt : P.underlying kt = some (.int kk')) (hz : lK P et = some .nilFunc) {W : World} {r : Nat} {es : Array MapEntry} {clock : Nat} (hb : W.heap[r]? = some (.map es clock)) {n1 n2 k : Int} {v1 v2 : Value}
  (hk : es.toList.map (·.key) = [.int kk n1, .int kk n2]) (hv : es.toList.map (·.val) = [v1, v2]) : (Instr.lookup mt (.map (some r)) (.int kk k) false).run P W = .ok (if k = n1 then v1 else if k = n2 then v2 else .nilFunc) W := by
 have hfind : (Instr.findKey kt (.int kk k) es.toList).run P W = .ok (if k = n1 then some (0, v1) else if k = n2 then some (1, v2) else none) W := by
  unfold Instr.findKey; simp [Sem.run_bind, run_underlying hkt, Result.andThen, HU hk hv]
 have hchk : (Instr.checkKey es.isEmpty 10000 kt (.int kk k)).run P W = .ok () W := by
  unfold Instr.checkKey; simp [Sem.run_bind, run_underlying hkt, Result.andThen]
 have hget : (getObj r).run P W = .ok (.map es clock) W := by
  simp [getObj, Sem.run, hb]
 simp only [lK, Option.bind_eq_some_iff] at hz; obtain ⟨ie, hie, hz⟩ := hz; have hzr : (zeroValue et).run P W = .ok .nilFunc W := by simp [zeroValue, typeInfo, hie, hz]
 unfold Instr.lookup; simp only [Sem.run_bind, run_underlying hu, Result.andThen_ok, hget, Sem.run_pure, hchk, hfind]; by_cases e1 : k = n1
 ·simp [e1]
 ·by_cases e2 : k = n2
  ·subst e2; simp [e1]
  ·simp [e1, e2, Sem.run_bind, hzr]
theorem IM {kk' : IntKind} (hF : Env F P G N) (hu : P.underlying mt = some (.map kt et)) (hkt : P.underlying kt = some (.int kk')) (hz : lK P et = some .nilFunc) {o0 o1 o2 o3 o4 o5 o6 o7 o8 o9 : Oper} {s y t0 t1 t2 t4 t5 t7 t8 t9 : Nat} {f g : FuncId} {n1 n2 k : Int} {r : Nat}
  (p0 : o0.op = .makeMap mt none) (p1 : o1.op = .move (.tmp s)) (p2 : o2.op = .makeFunc (.func f) #[.tmp t1] #[]) (p3 : o3.op = .insert mt (.tmp t0) (.const (.int kk n1)) (.tmp t2))
  (p4 : o4.op = .move (.tmp s)) (p5 : o5.op = .makeFunc (.func g) #[.tmp t4] #[]) (p6 : o6.op = .insert mt (.tmp t0) (.const (.int kk n2)) (.tmp t5)) (p7 : o7.op = .move (.tmp t0)) (p8 : o8.op = .move (.tmp y)) (p9 : o9.op = .lookup mt (.tmp t7) (.tmp t8) false)
  (hd : [o0, o1, o2, o3, o4, o5, o6, o7, o8, o9].map (·.dst) = [some t0, some t1, some t2, none, some t4, some t5, none, some t7, some t8, some t9]) (hg : [o0, o1, o2, o3, o4, o5, o6, o7, o8, o9].all (fun o => o.guard.isNone) = true)
  (hlt : s < t0 /\ y < t0 /\ t0 < t1 /\ t1 < t2 /\ t2 < t4 /\ t4 < t5 /\ t5 < t7 /\ t7 < t8 /\ t8 < t9 /\ t9 < N) (hfree : ey t0 env = true) (hn : n1 ≠ n2)
  (hx : look env s = some (.ref r 0 0)) (hy : look env y = some (.d (.v (.int kk k)))) (kont : SmG F N ops rest Q ⟨(t9, qX f g n1 n2 k r) :: env, h, nx⟩) : SmG F N ops (o0 :: o1 :: o2 :: o3 :: o4 :: o5 :: o6 :: o7 :: o8 :: o9 :: rest) Q ⟨env, h, nx⟩ := by
 intro hsm μ C a w hs; obtain ⟨l0, l1, l2, l3, l4, l5, l6, l7, l8, l9⟩ := hlt; simp only [List.map_cons, List.map_nil, List.cons.injEq, and_true] at hd; obtain ⟨d0, d1, d2, d3, d4, d5, d6, d7, d8, d9⟩ := hd; simp only [List.all_cons, List.all_nil, Bool.and_true, Bool.and_eq_true, Option.isNone_iff_eq_none] at hg; obtain ⟨g0, g1, g2, g3, g4, g5, g6, g7, g8, g9⟩ := hg; have hk := kont; obtain ⟨rfl, rfl, hG⟩ := hF; have hsz : a.tmps.size = F.N := hs.size; have hno : ∀ t, t0 <= t -> look env t = none := by
  intro t ht; cases hq : look env t with
  | none => rfl
  | some x =>
   have := jC (st := ⟨env, h, nx⟩) hfree t x hq; omega
 obtain ⟨pl, hp1, hp2, hp3⟩ := hs.env s _ hx; have hy' := hs.env y _ hy; have hs' : a.tmps.getD s undef = .pointer (some ⟨pl.b, 0, none⟩) := by simpa using hp3
 have hy2 : a.tmps.getD y undef = .int kk k := by
  generalize a.tmps.getD y undef = u at hy' ⊢; cases hy' with | v _ => rfl
 have hb0 : (w.alloc (.map #[] 0)).heap[w.heap.size]? = some (.map #[] 0) := heap_alloc_new w _; generalize hvp : (Value.pointer (some ⟨pl.b, 0, none⟩)) = vp at hs'; have hpt : ∀ {a : Act} {t s : Nat} {v : Value}, a.tmps.size = F.N -> t < F.N -> (a.put (some t) v).eval (.tmp s) = if s = t then v else a.eval (.tmp s) := fun h1 h2 => JA (by rw [h1]; exact h2)
 have hps : ∀ {a : Act} {t : Option Tmp} {v : Value}, a.tmps.size = F.N -> (a.put t v).tmps.size = F.N := fun h => by rw [uk]; exact h
 have e_s : a.eval (.tmp s) = vp := hs'; have e_y : a.eval (.tmp y) = .int kk k := hy2; refine gC (v := .map (some w.heap.size)) (w' := w.alloc (.map #[] 0)) (by rw [p0]; simp) g0 (by simp only [execOp, p0]; rfl) ?_; rw [d0]; generalize ha1 : a.put (some t0) (.map (some w.heap.size)) = a1; have z1 : a1.tmps.size = F.N := by rw [<- ha1]; exact hps hsz
 have q1 : ∀ u : Nat, a1.eval (.tmp u) = if u = t0 then .map (some w.heap.size) else a.eval (.tmp u) := fun u => by rw [<- ha1]; exact hpt hsz (by omega)
 have s1 : Sim F ⟨env, h, nx⟩ μ C a1 w := by rw [<- ha1]; exact hs.putAny (hno _ (by omega)) (by omega)
 refine gC (v := vp) (w' := w.alloc (.map #[] 0)) (by rw [p1]; simp) g1 (by simp only [execOp, p1, q1, if_neg (show ¬ s = t0 by omega), e_s]; rfl) ?_; rw [d1]; generalize ha2 : a1.put (some t1) vp = a2; have z2 : a2.tmps.size = F.N := by rw [<- ha2]; exact hps z1
 have q2 : ∀ u : Nat, a2.eval (.tmp u) = if u = t1 then vp else a1.eval (.tmp u) := fun u => by rw [<- ha2]; exact hpt z1 (by omega)
 have s2 : Sim F ⟨env, h, nx⟩ μ C a2 w := by rw [<- ha2]; exact s1.putAny (hno _ (by omega)) (by omega)
 refine gC (v := .func (.func f) #[vp] #[]) (w' := w.alloc (.map #[] 0)) (by rw [p2]; simp) g2 (by simp only [execOp, p2, Array.map_empty, List.map_toArray, List.map_cons, List.map_nil, q2, if_true]; rfl) ?_; rw [d2]; generalize ha3 : a2.put (some t2) (.func (.func f) #[vp] #[]) = a3; have z3 : a3.tmps.size = F.N := by rw [<- ha3]; exact hps z2
 have q3 : ∀ u : Nat, a3.eval (.tmp u) = if u = t2 then .func (.func f) #[vp] #[] else a2.eval (.tmp u) := fun u => by rw [<- ha3]; exact hpt z2 (by omega)
 have s3 : Sim F ⟨env, h, nx⟩ μ C a3 w := by rw [<- ha3]; exact s2.putAny (hno _ (by omega)) (by omega)
 have r0 : ∀ {x : Act}, (∀ u : Nat, x.eval (.tmp u) = a3.eval (.tmp u)) -> x.eval (.tmp t0) = .map (some w.heap.size) /\ x.eval (.tmp t2) = .func (.func f) #[vp] #[] := fun hx => by
  rw [hx, hx, q3, q3, q2, q1, if_neg (show ¬ t0 = t2 by omega), if_neg (show ¬ t0 = t1 by omega)]; simp
 have hi1 := pM (P := F.P) hu hkt (kk := kk) hb0 (n := n1) (value := .func (.func f) #[vp] #[]) (by simp); refine wc (w' := (w.alloc (.map #[] 0)).putObj w.heap.size (.map (#[].push ⟨.int kk n1, .func (.func f) #[vp] #[], 0⟩) (0 + 1))) (by rw [p3]; simp) g3 d3 (by
  simp only [execOp, p3, (r0 fun _ => rfl).1, (r0 fun _ => rfl).2]; show (do Instr.mapUpdate mt (.map (some w.heap.size)) (.int kk n1) (.func (.func f) #[vp] #[]); pure .skip : Sem Next).run F.P _ = _; rw [Sem.run_bind, hi1]; rfl) ?_
 have hb1 : ((w.alloc (.map #[] 0)).putObj w.heap.size (.map (#[].push ⟨.int kk n1, .func (.func f) #[vp] #[], 0⟩) (0 + 1))).heap[w.heap.size]? = some _ := World.putObj_heap_same (Array.getElem?_eq_some_iff.1 hb0).1; have bl0 : Below w.heap.size w (w.alloc (.map #[] 0)) := (Below.refl _ w).alloc (Nat.le_refl _) _; have bl1 := bl0.grown (grownBy_putObj' (w.alloc (.map #[] 0)) w.heap.size (.map (#[].push ⟨.int kk n1, .func (.func f) #[vp] #[], 0⟩) (0 + 1))) (bl0.size) (fun k e => by cases e; exact Nat.le_refl _); generalize hW1 : (w.alloc (.map #[] 0)).putObj w.heap.size (.map (#[].push ⟨.int kk n1, .func (.func f) #[vp] #[], 0⟩) (0 + 1)) = W1 at hb1 bl1 ⊢; have e3s : a3.eval (.tmp s) = vp := by rw [q3, q2, q1, if_neg (show ¬ s = t2 by omega), if_neg (show ¬ s = t1 by omega), if_neg (show ¬ s = t0 by omega)]; exact e_s
 refine gC (v := vp) (w' := W1) (by rw [p4]; simp) g4 (by simp only [execOp, p4, e3s]; rfl) ?_; rw [d4]; generalize ha4 : a3.put (some t4) vp = a4; have z4 : a4.tmps.size = F.N := by rw [<- ha4]; exact hps z3
 have q4 : ∀ u : Nat, a4.eval (.tmp u) = if u = t4 then vp else a3.eval (.tmp u) := fun u => by rw [<- ha4]; exact hpt z3 (by omega)
 have s4 : Sim F ⟨env, h, nx⟩ μ C a4 w := by rw [<- ha4]; exact s3.putAny (hno _ (by omega)) (by omega)
 refine gC (v := .func (.func g) #[vp] #[]) (w' := W1) (by rw [p5]; simp) g5 (by simp only [execOp, p5, Array.map_empty, List.map_toArray, List.map_cons, List.map_nil, q4, if_true]; rfl) ?_; rw [d5]; generalize ha5 : a4.put (some t5) (.func (.func g) #[vp] #[]) = a5; have z5 : a5.tmps.size = F.N := by rw [<- ha5]; exact hps z4
 have q5 : ∀ u : Nat, a5.eval (.tmp u) = if u = t5 then .func (.func g) #[vp] #[] else a4.eval (.tmp u) := fun u => by rw [<- ha5]; exact hpt z4 (by omega)
 have s5 : Sim F ⟨env, h, nx⟩ μ C a5 w := by rw [<- ha5]; exact s4.putAny (hno _ (by omega)) (by omega)
 have m5 : a5.eval (.tmp t0) = .map (some w.heap.size) := by
  rw [q5, q4, if_neg (show ¬ t0 = t5 by omega), if_neg (show ¬ t0 = t4 by omega)]; exact (r0 fun _ => rfl).1
 have v5 : a5.eval (.tmp t5) = .func (.func g) #[vp] #[] := by rw [q5, if_pos rfl]
 have hi2 := pM (P := F.P) hu hkt (kk := kk) hb1 (n := n2) (value := .func (.func g) #[vp] #[]) (by
  intro e he; simp at he; subst he; exact ⟨n1, rfl, hn⟩)
 refine wc (w' := W1.putObj w.heap.size (.map ((#[].push ⟨.int kk n1, .func (.func f) #[vp] #[], 0⟩).push ⟨.int kk n2, .func (.func g) #[vp] #[], 0 + 1⟩) (0 + 1 + 1))) (by rw [p6]; simp) g6 d6 (by
  simp only [execOp, p6, m5, v5]; show (do Instr.mapUpdate mt (.map (some w.heap.size)) (.int kk n2) (.func (.func g) #[vp] #[]); pure .skip : Sem Next).run F.P _ = _; rw [Sem.run_bind, hi2]; rfl) ?_
 have hb2 : (W1.putObj w.heap.size (.map ((#[].push ⟨.int kk n1, .func (.func f) #[vp] #[], 0⟩).push ⟨.int kk n2, .func (.func g) #[vp] #[], 0 + 1⟩) (0 + 1 + 1))).heap[w.heap.size]? = some _ := World.putObj_heap_same (Array.getElem?_eq_some_iff.1 hb1).1; have bl2 := bl1.grown (grownBy_putObj' W1 w.heap.size (.map ((#[].push ⟨.int kk n1, .func (.func f) #[vp] #[], 0⟩).push ⟨.int kk n2, .func (.func g) #[vp] #[], 0 + 1⟩) (0 + 1 + 1))) (bl1.size) (fun k e => by cases e; exact Nat.le_refl _); generalize hW2 : W1.putObj w.heap.size (.map ((#[].push ⟨.int kk n1, .func (.func f) #[vp] #[], 0⟩).push ⟨.int kk n2, .func (.func g) #[vp] #[], 0 + 1⟩) (0 + 1 + 1)) = W2 at hb2 bl2 ⊢; refine gC (v := .map (some w.heap.size)) (w' := W2) (by rw [p7]; simp) g7 (by simp only [execOp, p7, m5]; rfl) ?_; rw [d7]; generalize ha7 : a5.put (some t7) (.map (some w.heap.size)) = a7; have z7 : a7.tmps.size = F.N := by rw [<- ha7]; exact hps z5
 have q7 : ∀ u : Nat, a7.eval (.tmp u) = if u = t7 then .map (some w.heap.size) else a5.eval (.tmp u) := fun u => by rw [<- ha7]; exact hpt z5 (by omega)
 have s7 : Sim F ⟨env, h, nx⟩ μ C a7 w := by rw [<- ha7]; exact s5.putAny (hno _ (by omega)) (by omega)
 have e7y : a7.eval (.tmp y) = .int kk k := by
  rw [q7, q5, q4, q3, q2, q1, if_neg (show ¬ y = t7 by omega), if_neg (show ¬ y = t5 by omega), if_neg (show ¬ y = t4 by omega), if_neg (show ¬ y = t2 by omega), if_neg (show ¬ y = t1 by omega), if_neg (show ¬ y = t0 by omega)]; exact e_y
 refine gC (v := .int kk k) (w' := W2) (by rw [p8]; simp) g8 (by simp only [execOp, p8, e7y]; rfl) ?_; rw [d8]; generalize ha8 : a7.put (some t8) (.int kk k) = a8; have z8 : a8.tmps.size = F.N := by rw [<- ha8]; exact hps z7
 have q8 : ∀ u : Nat, a8.eval (.tmp u) = if u = t8 then .int kk k else a7.eval (.tmp u) := fun u => by rw [<- ha8]; exact hpt z7 (by omega)
 have s8 : Sim F ⟨env, h, nx⟩ μ C a8 w := by rw [<- ha8]; exact s7.putAny (hno _ (by omega)) (by omega)
 have hrun := JU (kk := kk) (n1 := n1) (n2 := n2) (k := k) (v1 := .func (.func f) #[vp] #[]) (v2 := .func (.func g) #[vp] #[]) hu hkt hz hb2 (by simp) (by simp); refine gC (v := if k = n1 then .func (.func f) #[vp] #[] else if k = n2 then .func (.func g) #[vp] #[] else .nilFunc) (w' := W2) (by rw [p9]; simp) g9 (by
  simp only [execOp, p9]; rw [q8, q8, if_neg (show ¬ t7 = t8 by omega), if_pos rfl, q7, if_pos rfl]; show (do let v <- Instr.lookup mt (.map (some w.heap.size)) (.int kk k) false; pure (.value v) : Sem Next).run F.P W2 = _; rw [Sem.run_bind, hrun]; rfl) ?_
 rw [d9]; have hfin : Sim F ⟨env, h, nx⟩ μ C a8 W2 := s8.more (.of_below hs.known bl2); have hrep : ax μ C (qX f g n1 n2 k r) (if k = n1 then .func (.func f) #[vp] #[] else if k = n2 then .func (.func g) #[vp] #[] else .nilFunc) := by
  have hcp : fe μ C [.r r 0] [vp] := ⟨vp, [], rfl, ⟨pl, hp1, hp2, by rw [<- hvp]⟩, rfl⟩
  unfold qX; split
  ·exact ⟨[vp], [], rfl, hcp, rfl⟩
  ·split
   ·exact ⟨[vp], [], rfl, hcp, rfl⟩
   ·exact Rp.v _
 exact hk (bJ hsm (by simpa using l9)) μ C _ W2 (hfin.put (by simpa using l9) hrep)
end
end
section
section
variable {P : Program} {G : zGz} {N : Nat} {F : Fr} {ops rest : zOz} {o : Oper} {Q : zQz} {h0 h : zHz} {env : zEz} {al : zHz} {nx : Nat} {K : zEz -> zHz -> Nat -> Prop}
theorem Ay {α : Type} {C : aw} {f : α -> List D} {g : α -> D} (hf : ∀ x, f x = [g x]) : ∀ {l : List α} {b off : Nat}, Rp C (.rows (l.map f) b off 1) -> Rp C (.mem (l.map g) b off)
 | [], _, _, _ => .mnil _ _
 | x :: l, b, off, h => by
  simp only [List.map_cons, hf] at h; cases h with
  | rcons _ _ _ _ _ h1 h2 h3 =>
   cases h2 with
   | mcons _ _ _ _ u k1 k2 k3 k4 => exact .mcons _ _ _ _ u k1 k2 k3 (Ay hf h3)
theorem rC (hF : Env F P G N) {T e : TypeId} {n : Nat} {x : Operand} {l : zBz} {f : Bool} (ho : o.op = .sliceToArrayPointer T x) (hx : evD G env x = some (.d (.list 1 (l.map ai) f))) (hu : P.underlying T = some (.array n e)) (hl : l.length = n) (hn : 0 < n) : cq F G h0 o env (.d (.ptr n (ay l))) := by
 intro μ C a w nx' hh hsim hold hop K Q hK; obtain ⟨rfl, rfl, hG⟩ := hF; have hxv : ax μ C (.d (.list 1 (l.map ai) f)) (a.eval x) := hop x (by rw [ho]; simp [Op.operands]) _ hx; unfold Oper.wp; have hxv : Rp C (.one (.list 1 (l.map ai) f) (a.eval x)) := hxv; generalize hv : a.eval x = v at hxv; have hlen : (l.map ai).length = l.length := by simp
 generalize hxs : l.map ai = xs at hxv; cases hxv with
 | nil _ _ ad cap hc =>
  exfalso; have := congrArg List.length hxs; simp at this; subst this; simp at hl; omega
 | list _ _ _ b off cap hne hcap hrows =>
  have hex : (execOp a.eval o).run F.P w = .ok (.value (.pointer (some ⟨b, off, none⟩))) w := by
   simp only [execOp, ho, hv]; show (do let v <- Instr.arrayAt T (.slice (some ⟨b, off, none⟩) xs.length cap); pure (.value v) : Sem Next).run F.P w = _; unfold Instr.arrayAt; simp only [Sem.run_bind, run_underlying hu, Result.andThen_ok]; have : ¬ xs.length < n := by rw [<- hxs, hlen]; omega
   simp [this]
  rw [hex, Oper.upon_value]; refine hK _ _ C (More.refl hsim.known) ?_; show Rp C _; subst hxs; exact .ptr n (ay l) b off (by simp [ay, hl]) (Ay (f := ai) (g := aG) (fun _ => rfl) hrows)
theorem au.gives (hF : Env F P G N) {t : Tmp} {x : V} (hd : o.dst = some t) (ht : Nat.blt t N = true) (hg : aC ops env o.guard = some true) (hx : cq F G h0 o env x) (k : au F G N ops.toArray h0 rest ((t, x) :: env) al nx K) : au F G N ops.toArray h0 (o :: rest) env al nx K :=
 .inl ⟨t, hd, by simpa [Nat.blt_eq] using ht, .inl ⟨x, .inl ⟨aN hg, hx⟩, k⟩⟩
theorem HH {T : TypeId} {ps rs : Array TypeId} {va : Bool} (hu : P.underlying T = some (.func ps rs va)) {g : Fn} {us ws : Array Value} {w : World} : (binOp .neq T (.func g us ws) .nilFunc).run P w = .ok (.bool true) w := by
 have h2 : binOp .neq T (.func g us ws) .nilFunc = (do pure (.bool (!(<- Op.equal T (.func g us ws) .nilFunc))) : Sem Value) := rfl; rw [h2]; unfold Op.equal Op.equalIn; simp [Sem.run_bind, run_underlying hu, Result.andThen_ok, Op.maxDepth]
theorem xm (hF : Env F P G N) {T : TypeId} {ps rs : Array TypeId} {va : Bool} {x : Operand} {d : Tmp} {f : FuncId} {first caps : List Cap} {T2 : TypeId} (ho : o.op = .binOp .neq T x (.const .nilFunc) T2) (hd : o.dst = some d) (hdN : Nat.blt d N = true) (hg : aC ops env o.guard = some true) (hx : evB G env x = some (.clo f first caps)) (hu : P.underlying T = some (.func ps rs va))
  (k : SmG F N ops rest Q ⟨(d, .d (.v (.bool true))) :: env, h, nx⟩) : SmG F N ops (o :: rest) Q ⟨env, h, nx⟩ := by
 intro hsm μ C a w hs; obtain ⟨rfl, rfl, hG⟩ := hF; have ht' : d < F.N := by simpa [Nat.blt_eq] using hdN
 have hev : ∀ x v, evB G env x = some v -> ax μ C v (a.eval x) := fun x v h => bW hs hG (by rw [aT] at h; exact h)
 refine cb (fun _ => by rw [ho]; simp) fun K hK => ?_
 rw [bI hs (aN hg) hsm, if_pos rfl]; unfold Oper.wp; obtain ⟨us, ws, hfx, _, _⟩ := hev x _ hx; have : (execOp a.eval o).run F.P w = .ok (.value (.bool true)) w := by
  simp only [execOp, ho, hfx]; show (do let v <- (do eqGuard .neq T x (.const .nilFunc) (.func (.func f) us.toArray ws.toArray) .nilFunc; binOp .neq T (.func (.func f) us.toArray ws.toArray) .nilFunc); pure (.value v) : Sem Next).run F.P w = _; have hgd : (eqGuard .neq T x (.const .nilFunc) (.func (.func f) us.toArray ws.toArray) .nilFunc).run F.P w = .ok () w := rfl; simp only [Sem.run_bind, hgd, Result.andThen_ok, HH hu]; rfl
 rw [this, Oper.upon_value, hd]; exact hK _ _ (k (bJ hsm ht') μ C _ w (hs.put ht' (.v _)))
theorem HN {T e : TypeId} (hu : P.underlying T = some (.slice e)) {a : Option Addr} {n m : Nat} {w : World} : (binOp .eql T (.slice a n m) (.slice none 0 0)).run P w = .ok (.bool a.isNone) w := by
 have h2 : binOp .eql T (.slice a n m) (.slice none 0 0) = (do pure (.bool (<- Op.equal T (.slice a n m) (.slice none 0 0))) : Sem Value) := rfl; rw [h2]; unfold Op.equal Op.equalIn; cases a <;> simp [Sem.run_bind, run_underlying hu, Result.andThen_ok, Op.maxDepth]
theorem xn (hF : Env F P G N) {T e : TypeId} {x : Operand} {d : Tmp} {T2 : TypeId} {sz : Nat} {xs : zRz} {f : Bool} (ho : o.op = .binOp .eql T x (.const (.slice none 0 0)) T2) (hd : o.dst = some d) (hdN : Nat.blt d N = true) (hg : aC ops env o.guard = some true) (hx : evB G env x = some (.d (.list sz xs f))) (hu : P.underlying T = some (.slice e))
  (k : ∀ b, (b = true -> xs = []) -> SmG F N ops rest Q ⟨(d, .d (.v (.bool b))) :: env, h, nx⟩) : SmG F N ops (o :: rest) Q ⟨env, h, nx⟩ := by
 intro hsm μ C a w hs; obtain ⟨rfl, rfl, hG⟩ := hF; have ht' : d < F.N := by simpa [Nat.blt_eq] using hdN
 have hev : ∀ x v, evB G env x = some v -> ax μ C v (a.eval x) := fun x v h => bW hs hG (by rw [aT] at h; exact h)
 refine cb (fun _ => by rw [ho]; simp) fun K hK => ?_
 rw [bI hs (aN hg) hsm, if_pos rfl]; unfold Oper.wp; have hxv : Rp C (.one (.list sz xs f) (a.eval x)) := hev x _ hx; obtain ⟨ad, n, m, hsl, hnil⟩ : ∃ ad n m, a.eval x = .slice ad n m /\ (ad.isNone = true -> xs = []) := by
  generalize a.eval x = u at hxv ⊢; cases hxv with
  | nil _ _ ad cap hc => exact ⟨ad, 0, cap, rfl, fun _ => rfl⟩
  | list _ _ _ b off cap hne _ _ => exact ⟨some ⟨b, off, none⟩, _, cap, rfl, fun h => by cases h⟩
 have : (execOp a.eval o).run F.P w = .ok (.value (.bool ad.isNone)) w := by
  simp only [execOp, ho, hsl]; show (do let v <- (do eqGuard .eql T x (.const (.slice none 0 0)) (.slice ad n m) (.slice none 0 0); binOp .eql T (.slice ad n m) (.slice none 0 0)); pure (.value v) : Sem Next).run F.P w = _; have hgd : (eqGuard .eql T x (.const (.slice none 0 0)) (.slice ad n m) (.slice none 0 0)).run F.P w = .ok () w := rfl; simp only [Sem.run_bind, hgd, Result.andThen_ok, HN hu]; rfl
 rw [this, Oper.upon_value, hd]; exact hK _ _ (k _ hnil (bJ hsm ht') μ C _ w (hs.put ht' (.v _)))
end
end
section
theorem tR (s : Vec 32) (x : zBz) : dS Tryd.prog 53 [(0, .d (.agg 32 (ay s.l))), (1, .d (.list 1 (x.map ai) false))] = some (.d (.agg 33 (Ob.row ⟨s, x⟩))) := by
 have hl : (ay s.l).length = 32 := cQ s.h; refine ku (n := 33) Ni MI rfl ?_; rw [zJ (off := 0) (s := 32) (n := 33) rfl (by decide) hl rfl (by decide)]; rw [zK (off := 32) (n := 33) (d := .list 1 (x.map ai) false) rfl rfl (by simp [hl]) (by decide)]; simp [ez, Ob.row, hl]
theorem lV {R : List D} {s : Vec 32} {l : Nat} {h : zHz} (hR : R.length = 33) (hT : R.take 32 = ay s.l) (hl : look h l = some ⟨33, [R.map V.d]⟩) : aX Tryd.prog h 42 (.ref l 0 0) = some (.d (.agg 32 (ay s.l))) := by
 have hs : seg (R.map V.d) 33 0 32 = (ay s.l).map V.d := by
  unfold seg; rw [if_neg (by decide), List.drop_zero, <- List.map_take, hT]
 have hp : bv ((ay s.l).map V.d) = some (ay s.l) := gK _; simp only [aX, hl, Option.bind_some, List.getElem?_cons_zero, cj, oZ, pp, hs, hp]; rfl
theorem nL {R : List D} {l : Nat} {h : zHz} (hR : R.length = 33) (hl : look h l = some ⟨33, [R.map V.d]⟩) : aX Tryd.prog h 53 (.ref l 0 0) = some (.d (.agg 33 R)) := by
 have hs : seg (R.map V.d) 33 0 33 = R.map V.d := by
  unfold seg; rw [if_pos ⟨rfl, rfl⟩]
 have hp : bv (R.map V.d) = some R := gK _; simp only [aX, hl, Option.bind_some, List.getElem?_cons_zero, cj, rD, fO, hs, hp]; rfl
theorem gu (x : Ob) : (Ob.row x).length = 33 := by simp [Ob.row, cQ x.sum.h]
theorem jO (x : Ob) : (Ob.row x).take 32 = ay x.sum.l := by simp [Ob.row, cQ x.sum.h]
theorem tk (x : Ob) {h : zHz} {l : Nat} {zr : List V} {zp : List V} (hl : look h l = some ⟨33, [zr]⟩) (hp : ac zr = some zp) : dp Tryd.prog h 53 (.ref l 0 0) (.d (.agg 33 (Ob.row x))) = some (.upd l ⟨33, [(Ob.row x).map V.d]⟩) := by
 simp only [dp, hl, Option.bind_some, List.getElem?_cons_zero, hp, gm, fO]; rfl
noncomputable def cJ (a0 : List zBz) (a1 : Int) : Option (List zBz) :=
 bif (decide (a1 < 0)) then (
  none
 ) else (
  ob (arI .i64 (a1 - 0)) fun x2 =>
  bif (decide (0 < x2)) then (
   ob (wU x2) fun n4 =>
   some ([] : List zBz)
  ) else (
   some ([] : List zBz)
  )
 )
set_option maxHeartbeats 4000000 in
theorem kY {a0 : List zBz} {a1 : Int} {r : List zBz} (h : cJ a0 a1 = some r) : cc Tryd.prog HG 52 [.z, .i a1] .one 1 (r.map av) [] := by
 unfold cJ at h; refine cc.of Tryd.func52 rfl Tryd.ntmps52 (by simp) ?_; intro F hF h0 hT; show Sm F _ _ ⟨[(0, .z), (1, .i a1)], [], 0⟩; refine sr hF (gv hF oA (sn (Sm.seq (sr hF (gv hF oM (gv hF (oB (gb)) (sn ?_))))))); refine eV hF rfl (fun hc1 => ?_) (fun hc1 => ?_)
 ·replace h := ifT hc1 h; refine ab hF rfl ?_; cases h
 replace h := ifF hc1 h; refine sk (Sm.seq (sr hF (gv hF oM (gv hF oM ?_)))); refine SmG.capFull hF Tryd.underlying25 rfl rfl rfl rfl rfl ?_; refine gv hF oM (gv hF (oN (vq u25)) (gv hF (oB (sl (v := 0) rfl)) ?_)); obtain ⟨x2, hx2, h⟩ := ap h; refine gv hF (oB (sl hx2)) (gv hF oA (sn (sr hF (gv hF oM (gv hF (oB (Ix)) (sn ?_)))))); refine cN hF rfl (fun hc3 => ?_) (fun hc3 => ?_)
 ·replace h := ifF hc3 h; refine sk (sr hF (gv hF oM (gv hF oA (sn ?_)))); refine Sm.to (kA (e := [(4, .z)]) (g := []) (m := 0)) ?_; refine Sm.own (t := 4) 1 rfl ?_; refine Sm.ret ?_; obtain rfl := aW h; exact ma 0 rfl rfl rfl
 replace h := ifT hc3 h; refine ab hF rfl ?_; refine gv hF oM (gv hF oM ?_); refine SmG.capFull hF Tryd.underlying25 rfl rfl rfl rfl rfl ?_; refine SmG.sliceNil hF Tryd.underlying25 AP rfl rfl rfl rfl rfl rfl ?_; refine gv hF oM ?_; obtain ⟨n4, hn4, h⟩ := ap h; refine SmG.appendMake hF tV Tryd.underlying3 rfl rfl rfl rfl rfl rfl (jw hn4).1 (jw hn4).2.1 (xU (jw hn4).2.2 rfl) (Nat.le_trans (jw hn4).2.2 (by decide)) ?_; refine gv hF oM (gv hF (oN (vq u25)) (gv hF (bC rfl rfl rfl rfl rfl (IK u25 rfl AP)) (gv hF oA (sn (sr hF (gv hF oM (gv hF oA (sn ?_)))))))); refine Sm.ret ?_; obtain rfl := aW h; exact ma 0 rfl rfl rfl
noncomputable def bp (a0 : List (List zBz)) (s1 : (Int × Int)) : Option ((Int × Int) ⊕ Int) :=
 bif (decide (s1.2 < (a0.length : Int))) then (
  ob (idx a0 s1.2) fun x6 =>
  ob (arI .i64 (s1.1 + (x6.length : Int))) fun x7 =>
  bif (decide (x7 < 0)) then (
   none
  ) else (
   ob (arI .i64 (s1.2 + 1)) fun x9 =>
   some (.inl (x7, x9))
  )
 ) else (
  some (.inr s1.1)
 )
noncomputable def bq (a0 : List (List zBz)) (s12 : (Int × (List zBz))) : Option ((Int × (List zBz)) ⊕ List zBz) :=
 bif (decide (s12.1 < (a0.length : Int))) then (
  ob (idx a0 s12.1) fun x17 =>
  ob (app s12.2 x17) fun x18 =>
  ob (arI .i64 (s12.1 + 1)) fun x19 =>
  some (.inl (x19, x18))
 ) else (
  some (.inr s12.2)
 )
noncomputable def bj (a0 : List (List zBz)) : Option (List zBz) :=
 ob ((
  cP (bp a0) (0, 0)
  : Option Int)) fun v10 =>
 ob (cJ [] v10) fun x11 =>
 ob ((
  cP (bq a0) (0, x11)
  : Option (List zBz))) fun v20 =>
 some v20
set_option maxHeartbeats 4000000 in
theorem fQ {a0 : List (List zBz)} {r : List zBz} (h : bj a0 = some r) : cc Tryd.prog HG 33 [.list 1 (a0.map (kG 1 av)) false] .one 1 (r.map av) [] := by
 unfold bj at h; refine cc.of Tryd.func33 rfl Tryd.ntmps33 (by simp) ?_; intro F hF h0 hT; show Sm F _ _ ⟨[(0, .d (.list 1 (a0.map (kG 1 av)) false))], [], 0⟩; refine sr hF (gv hF oA (sn (sr hF (gv hF oA (sn (Sm.seq ?_)))))); obtain ⟨v10, hv10, h⟩ := ap h; refine xl ⟨[(0, .d (.list 1 (a0.map (kG 1 av)) false)), (3, .i v10)], [], 0⟩ ?_ ?_
 ·replace h := hv10; refine sr hF (gv hF oM (gv hF (oN (eJ u98)) (gv hF oM (sn (Sm.block ?_))))); refine eE (bp a0) (fun s1 => ⟨[(0, .d (.list 1 (a0.map (kG 1 av)) false)), (3, .i s1.1), (9, .d (.list 1 (a0.map (kG 1 av)) false)), (10, .i (a0.length : Int)), (11, .i s1.2)], [], 0⟩) (0, 0) h (kA) ?_; intro n2 s1 o3 h hd4; unfold bp at h; refine sr hF (gv hF (oB (gb)) (sn (Sm.seq ?_))); refine cN hF rfl (fun hc5 => ?_) (fun hc5 => ?_)
  ·replace h := ifF hc5 h; refine Sm.exit ?_; replace h := bV h hd4; obtain rfl := aW h; exact (kA)
  replace h := ifT hc5 h; refine sk (Sm.seq (Sm.block (sr hF ?_))); obtain ⟨x6, hx6, h⟩ := ap h; refine gv hF (oI (eI u98 DX hx6)) (gv hF (oL (lP1 pY rfl)) (gv hF oA (sn (sr hF (gv hF oM (gv hF oM (gv hF (oN (eJ u25)) ?_))))))); obtain ⟨x7, hx7, h⟩ := ap h; refine gv hF (oB (dX hx7)) (gv hF oA (sn (sr hF (gv hF oM (gv hF (oB (gb)) (sn ?_)))))); refine eV hF rfl (fun hc8 => ?_) (fun hc8 => ?_)
  ·replace h := ifT hc8 h; refine ab hF rfl ?_; cases h
  replace h := ifF hc8 h; refine Sm.skip ?_; refine aI (aa ?_); refine ab hF rfl ?_; obtain ⟨x9, hx9, h⟩ := ap h; refine gv hF (oB (dX hx9)) (gv hF oM (SmG.nil ?_)); exact eZ (dN h hd4) (kA)
 refine sr hF (gv hF oM ?_); obtain ⟨x11, hx11, h⟩ := ap h; refine SmG.callO hF rfl rfl (by kernel_rfl) rfl rfl rfl (kY hx11) ?_; refine gv hF oA (sn (Sm.seq ?_)); obtain ⟨v20, hv20, h⟩ := ap h; refine iu ⟨[(6, .sref 0 0 (v20.map av).length)], [(0, dB 1 (v20.map av))], 1⟩ ?_ ?_
 ·refine Sm.seq ?_; refine ab hF rfl ?_; refine gv hF oM (gv hF oA (sn (Sm.ret ?_))); obtain rfl := aW h; exact ma 0 rfl rfl rfl
 replace h := hv20; refine sr hF (gv hF oM (gv hF (oN (eJ u98)) (gv hF oM (sn (Sm.block ?_))))); refine eE (bq a0) (fun s12 => ⟨[(6, .sref 0 0 (s12.2.map av).length), (25, .d (.list 1 (a0.map (kG 1 av)) false)), (26, .i (a0.length : Int)), (27, .i s12.1)], [(0, dB 1 (s12.2.map av))], 1⟩) (0, x11) h (kA) ?_; intro n13 s12 o14 h hd15; unfold bq at h; refine sr hF (gv hF (oB (gb)) (sn (Sm.seq ?_))); refine cN hF rfl (fun hc16 => ?_) (fun hc16 => ?_)
 ·replace h := ifF hc16 h; refine Sm.exit ?_; replace h := bV h hd15; obtain rfl := aW h; exact (kA)
 replace h := ifT hc16 h; refine sk (Sm.seq (Sm.block (sr hF ?_))); obtain ⟨x17, hx17, h⟩ := ap h; refine gv hF (oI (eI u98 DX hx17)) (gv hF (oL (lP1 pY rfl)) (gv hF oA (sn ?_))); refine ab hF rfl ?_; refine gv hF oM (gv hF oM ?_); obtain ⟨x18, hx18, h⟩ := ap h; refine gT hF tV rfl (ys := x17) (row := av) rfl rfl rfl rfl rfl rfl rfl rfl (.inl rfl) hx18 (by (repeat' first | exact mu _ | refine lq ?_ | refine cW ?_ (iZ _ _ _) | refine cW ?_ (iZ _ _ [_]) | refine cW ?_ (nG (by rfl)))) ?_; refine gv hF oA (SmG.nil (aI (aa ?_))); refine ab hF rfl ?_; obtain ⟨x19, hx19, h⟩ := ap h; refine gv hF (oB (dX hx19)) (gv hF oM (SmG.nil ?_)); exact eZ (dN h hd15) (kA)
theorem kf {a0 : List (List zBz)} {r : List zBz} (h : bj a0 = some r) : aj Tryd.prog HG 33 [.list 1 (a0.map (kG 1 av)) false] (.list 1 (r.map av) false) := (fQ h).data
noncomputable def bO (a0 : List Ob) (a1 : Int) : Option (List Ob) :=
 bif (decide (a1 < 0)) then (
  none
 ) else (
  ob (arI .i64 (a1 - 0)) fun x2 =>
  bif (decide (0 < x2)) then (
   ob (wU x2) fun n4 =>
   some ([] : List Ob)
  ) else (
   some ([] : List Ob)
  )
 )
set_option maxHeartbeats 4000000 in
theorem iT {a0 : List Ob} {a1 : Int} {r : List Ob} (h : bO a0 a1 = some r) : cc Tryd.prog HG 86 [.z, .i a1] .one 33 (r.map Ob.row) [] := by
 unfold bO at h; refine cc.of Tryd.func86 rfl Tryd.ntmps86 (by simp) ?_; intro F hF h0 hT; show Sm F _ _ ⟨[(0, .z), (1, .i a1)], [], 0⟩; refine sr hF (gv hF oA (sn (Sm.seq (sr hF (gv hF oM (gv hF (oB (gb)) (sn ?_))))))); refine eV hF rfl (fun hc1 => ?_) (fun hc1 => ?_)
 ·replace h := ifT hc1 h; refine ab hF rfl ?_; cases h
 replace h := ifF hc1 h; refine sk (Sm.seq (sr hF (gv hF oM (gv hF oM ?_)))); refine SmG.capFull hF Tryd.underlying24 rfl rfl rfl rfl rfl ?_; refine gv hF oM (gv hF (oN (vq u24)) (gv hF (oB (sl (v := 0) rfl)) ?_)); obtain ⟨x2, hx2, h⟩ := ap h; refine gv hF (oB (sl hx2)) (gv hF oA (sn (sr hF (gv hF oM (gv hF (oB (Ix)) (sn ?_)))))); refine cN hF rfl (fun hc3 => ?_) (fun hc3 => ?_)
 ·replace h := ifF hc3 h; refine sk (sr hF (gv hF oM (gv hF oA (sn ?_)))); refine Sm.to (kA (e := [(4, .z)]) (g := []) (m := 0)) ?_; refine Sm.own (t := 4) 33 rfl ?_; refine Sm.ret ?_; obtain rfl := aW h; exact ma 0 rfl rfl rfl
 replace h := ifT hc3 h; refine ab hF rfl ?_; refine gv hF oM (gv hF oM ?_); refine SmG.capFull hF Tryd.underlying24 rfl rfl rfl rfl rfl ?_; refine SmG.sliceNil hF Tryd.underlying24 fO rfl rfl rfl rfl rfl rfl ?_; refine gv hF oM ?_; obtain ⟨n4, hn4, h⟩ := ap h; refine SmG.appendMake hF rM Tryd.underlying3 rfl rfl rfl rfl rfl rfl (jw hn4).1 (jw hn4).2.1 (xU (jw hn4).2.2 rfl) (Nat.le_trans (jw hn4).2.2 (by decide)) ?_; refine gv hF oM (gv hF (oN (vq u24)) (gv hF (bC rfl rfl rfl rfl rfl (IK u24 rfl fO)) (gv hF oA (sn (sr hF (gv hF oM (gv hF oA (sn ?_)))))))); refine Sm.ret ?_; obtain rfl := aW h; exact ma 0 rfl rfl rfl
noncomputable def aP (a0 : List (List Ob)) (s1 : (Int × Int)) : Option ((Int × Int) ⊕ Int) :=
 bif (decide (s1.2 < (a0.length : Int))) then (
  ob (idx a0 s1.2) fun x6 =>
  ob (arI .i64 (s1.1 + (x6.length : Int))) fun x7 =>
  bif (decide (x7 < 0)) then (
   none
  ) else (
   ob (arI .i64 (s1.2 + 1)) fun x9 =>
   some (.inl (x7, x9))
  )
 ) else (
  some (.inr s1.1)
 )
noncomputable def aQ (a0 : List (List Ob)) (s12 : (Int × (List Ob))) : Option ((Int × (List Ob)) ⊕ List Ob) :=
 bif (decide (s12.1 < (a0.length : Int))) then (
  ob (idx a0 s12.1) fun x17 =>
  ob (app s12.2 x17) fun x18 =>
  ob (arI .i64 (s12.1 + 1)) fun x19 =>
  some (.inl (x19, x18))
 ) else (
  some (.inr s12.2)
 )
noncomputable def bH (a0 : List (List Ob)) : Option (List Ob) :=
 ob ((
  cP (aP a0) (0, 0)
  : Option Int)) fun v10 =>
 ob (bO [] v10) fun x11 =>
 ob ((
  cP (aQ a0) (0, x11)
  : Option (List Ob))) fun v20 =>
 some v20
set_option maxHeartbeats 4000000 in
theorem ij {a0 : List (List Ob)} {r : List Ob} (h : bH a0 = some r) : cc Tryd.prog HG 77 [.list 1 (a0.map (kG 33 Ob.row)) false] .one 33 (r.map Ob.row) [] := by
 unfold bH at h; refine cc.of Tryd.func77 rfl Tryd.ntmps77 (by simp) ?_; intro F hF h0 hT; show Sm F _ _ ⟨[(0, .d (.list 1 (a0.map (kG 33 Ob.row)) false))], [], 0⟩; refine sr hF (gv hF oA (sn (sr hF (gv hF oA (sn (Sm.seq ?_)))))); obtain ⟨v10, hv10, h⟩ := ap h; refine xl ⟨[(0, .d (.list 1 (a0.map (kG 33 Ob.row)) false)), (3, .i v10)], [], 0⟩ ?_ ?_
 ·replace h := hv10; refine sr hF (gv hF oM (gv hF (oN (eJ AQ)) (gv hF oM (sn (Sm.block ?_))))); refine eE (aP a0) (fun s1 => ⟨[(0, .d (.list 1 (a0.map (kG 33 Ob.row)) false)), (3, .i s1.1), (9, .d (.list 1 (a0.map (kG 33 Ob.row)) false)), (10, .i (a0.length : Int)), (11, .i s1.2)], [], 0⟩) (0, 0) h (kA) ?_; intro n2 s1 o3 h hd4; unfold aP at h; refine sr hF (gv hF (oB (gb)) (sn (Sm.seq ?_))); refine cN hF rfl (fun hc5 => ?_) (fun hc5 => ?_)
  ·replace h := ifF hc5 h; refine Sm.exit ?_; replace h := bV h hd4; obtain rfl := aW h; exact (kA)
  replace h := ifT hc5 h; refine sk (Sm.seq (Sm.block (sr hF ?_))); obtain ⟨x6, hx6, h⟩ := ap h; refine gv hF (oI (eI AQ DW hx6)) (gv hF (oL (lP1 tP rfl)) (gv hF oA (sn (sr hF (gv hF oM (gv hF oM (gv hF (oN (eJ u24)) ?_))))))); obtain ⟨x7, hx7, h⟩ := ap h; refine gv hF (oB (dX hx7)) (gv hF oA (sn (sr hF (gv hF oM (gv hF (oB (gb)) (sn ?_)))))); refine eV hF rfl (fun hc8 => ?_) (fun hc8 => ?_)
  ·replace h := ifT hc8 h; refine ab hF rfl ?_; cases h
  replace h := ifF hc8 h; refine Sm.skip ?_; refine aI (aa ?_); refine ab hF rfl ?_; obtain ⟨x9, hx9, h⟩ := ap h; refine gv hF (oB (dX hx9)) (gv hF oM (SmG.nil ?_)); exact eZ (dN h hd4) (kA)
 refine sr hF (gv hF oM ?_); obtain ⟨x11, hx11, h⟩ := ap h; refine SmG.callO hF rfl rfl (by kernel_rfl) rfl rfl rfl (iT hx11) ?_; refine gv hF oA (sn (Sm.seq ?_)); obtain ⟨v20, hv20, h⟩ := ap h; refine iu ⟨[(6, .sref 0 0 (v20.map Ob.row).length)], [(0, dB 33 (v20.map Ob.row))], 1⟩ ?_ ?_
 ·refine Sm.seq ?_; refine ab hF rfl ?_; refine gv hF oM (gv hF oA (sn (Sm.ret ?_))); obtain rfl := aW h; exact ma 0 rfl rfl rfl
 replace h := hv20; refine sr hF (gv hF oM (gv hF (oN (eJ AQ)) (gv hF oM (sn (Sm.block ?_))))); refine eE (aQ a0) (fun s12 => ⟨[(6, .sref 0 0 (s12.2.map Ob.row).length), (25, .d (.list 1 (a0.map (kG 33 Ob.row)) false)), (26, .i (a0.length : Int)), (27, .i s12.1)], [(0, dB 33 (s12.2.map Ob.row))], 1⟩) (0, x11) h (kA) ?_; intro n13 s12 o14 h hd15; unfold aQ at h; refine sr hF (gv hF (oB (gb)) (sn (Sm.seq ?_))); refine cN hF rfl (fun hc16 => ?_) (fun hc16 => ?_)
 ·replace h := ifF hc16 h; refine Sm.exit ?_; replace h := bV h hd15; obtain rfl := aW h; exact (kA)
 replace h := ifT hc16 h; refine sk (Sm.seq (Sm.block (sr hF ?_))); obtain ⟨x17, hx17, h⟩ := ap h; refine gv hF (oI (eI AQ DW hx17)) (gv hF (oL (lP1 tP rfl)) (gv hF oA (sn ?_))); refine ab hF rfl ?_; refine gv hF oM (gv hF oM ?_); obtain ⟨x18, hx18, h⟩ := ap h; refine gT hF rM rfl (ys := x17) (row := Ob.row) rfl rfl rfl rfl rfl rfl rfl rfl (.inl rfl) hx18 (by (repeat' first | exact mu _ | refine lq ?_ | refine cW ?_ (iZ _ _ _) | refine cW ?_ (iZ _ _ [_]) | refine cW ?_ (nG (by rfl)))) ?_; refine gv hF oA (SmG.nil (aI (aa ?_))); refine ab hF rfl ?_; obtain ⟨x19, hx19, h⟩ := ap h; refine gv hF (oB (dX hx19)) (gv hF oM (SmG.nil ?_)); exact eZ (dN h hd15) (kA)
noncomputable def aV (a0 : List Ob) (a1 : (FnV Tryd.prog HG (α := Ob) (β := Bool) (fun x => [.agg 33 (Ob.row x)]) (fun y => .v (.bool y)))) (s1 : Int) : Option (Int ⊕ (Unit ⊕ Int)) :=
 bif (decide (s1 < (a0.length : Int))) then (
  ob (idx a0 s1) fun x6 =>
  ob (a1.f x6) fun x7 =>
  bif x7 then (
   some (.inr (.inr s1))
  ) else (
   ob (arI .i64 (s1 + 1)) fun x9 =>
   some (.inl x9)
  )
 ) else (
  some (.inr (.inl ()))
 )
noncomputable def bT (a0 : List Ob) (a1 : (FnV Tryd.prog HG (α := Ob) (β := Bool) (fun x => [.agg 33 (Ob.row x)]) (fun y => .v (.bool y)))) : Option Int :=
 ob ((
  cP (aV a0 a1) 0
  : Option (Unit ⊕ Int))) fun o11 => match o11 with
 | .inl v10 => (
  some (-1)
  )
 | .inr e12 => some e12
set_option maxHeartbeats 4000000 in
theorem gI {a0 : List Ob} {a1 : (FnV Tryd.prog HG (α := Ob) (β := Bool) (fun x => [.agg 33 (Ob.row x)]) (fun y => .v (.bool y)))} {r : Int} (h : bT a0 a1 = some r) : aj Tryd.prog HG 75 [.list 33 (a0.map Ob.row) false, .fn a1.g a1.c] (.i r) := by
 unfold bT at h; refine aj.of Tryd.func75 rfl Tryd.ntmps75 (by simp) ?_; intro F hF h0 hT; show Sm F _ _ ⟨[(0, .d (.list 33 (a0.map Ob.row) false)), (1, .d (.fn a1.g a1.c))], [], 0⟩; refine sr hF (gv hF oA (sn (Sm.seq ?_))); obtain ⟨o11, ho11, h⟩ := ap h; rcases zb o11 with ⟨e12, rfl⟩ | ⟨v10, rfl⟩
 ·have he12 := aW h; subst he12; replace h := ho11; refine sr hF (gv hF oM (gv hF (oN (eJ u24)) (gv hF oM (sn (Sm.block ?_))))); refine eE (aV a0 a1) (fun s1 => ⟨[(0, .d (.list 33 (a0.map Ob.row) false)), (1, .d (.fn a1.g a1.c)), (7, .i (a0.length : Int)), (8, .i s1)], [], 0⟩) 0 h (kA) ?_; intro n2 s1 o3 h hd4; unfold aV at h; refine sr hF (gv hF (oB (gb)) (sn (Sm.seq ?_))); refine cN hF rfl (fun hc5 => ?_) (fun hc5 => ?_)
  ·replace h := ifF hc5 h; refine Sm.exit ?_; replace h := bV h hd4; cases h
  replace h := ifT hc5 h; refine sk (Sm.seq (Sm.block (sr hF (gv hF oM (gv hF oA (sn (sr hF (gv hF oM ?_)))))))); refine gv hF oM (gv hF oM ?_); obtain ⟨x6, hx6, h⟩ := ap h; refine gv hF (oI (eI u24 fO hx6)) (gv hF (x := .d (.agg 33 (Ob.row x6))) (oL (kj rD fO rfl rfl)) ?_); obtain ⟨x7, hx7, h⟩ := ap h; refine SmG.callF hF rfl rfl rfl rfl rfl rfl a1.body (a1.ok _ _ hx7) ?_; refine sn ?_; refine cN hF rfl (fun hc8 => ?_) (fun hc8 => ?_)
  ·replace h := ifF hc8 h; refine Sm.skip ?_; refine aI (aa ?_); refine ab hF rfl ?_; obtain ⟨x9, hx9, h⟩ := ap h; refine gv hF (oB (dX hx9)) (gv hF oM (SmG.nil ?_)); exact eZ (dN h hd4) (kA)
  replace h := ifT hc8 h; refine sr hF (gv hF oM (gv hF oA (sn (Sm.ret ?_)))); replace h := bV h hd4; replace h := sW h; obtain rfl := aW h; exact lD rfl rfl
 refine iu ⟨[], [], 0⟩ ?_ ?_
 ·refine Sm.seq ?_; refine ab hF rfl ?_; refine gv hF oA (sn (Sm.ret ?_)); obtain rfl := aW h; exact lD rfl rfl
 replace h := ho11; refine sr hF (gv hF oM (gv hF (oN (eJ u24)) (gv hF oM (sn (Sm.block ?_))))); refine eE (aV a0 a1) (fun s1 => ⟨[(0, .d (.list 33 (a0.map Ob.row) false)), (1, .d (.fn a1.g a1.c)), (7, .i (a0.length : Int)), (8, .i s1)], [], 0⟩) 0 h (kA) ?_; intro n2 s1 o3 h hd4; unfold aV at h; refine sr hF (gv hF (oB (gb)) (sn (Sm.seq ?_))); refine cN hF rfl (fun hc5 => ?_) (fun hc5 => ?_)
 ·replace h := ifF hc5 h; refine Sm.exit ?_; replace h := bV h hd4; obtain rfl := aW (sV h); exact (kA)
 replace h := ifT hc5 h; refine sk (Sm.seq (Sm.block (sr hF (gv hF oM (gv hF oA (sn (sr hF (gv hF oM ?_)))))))); refine gv hF oM (gv hF oM ?_); obtain ⟨x6, hx6, h⟩ := ap h; refine gv hF (oI (eI u24 fO hx6)) (gv hF (x := .d (.agg 33 (Ob.row x6))) (oL (kj rD fO rfl rfl)) ?_); obtain ⟨x7, hx7, h⟩ := ap h; refine SmG.callF hF rfl rfl rfl rfl rfl rfl a1.body (a1.ok _ _ hx7) ?_; refine sn ?_; refine eV hF rfl (fun hc8 => ?_) (fun hc8 => ?_)
 ·replace h := ifT hc8 h; refine sr hF (gv hF oM (gv hF oA (sn (Sm.ret ?_)))); replace h := bV h hd4; cases h
 replace h := ifF hc8 h; refine Sm.skip ?_; refine aI (aa ?_); refine ab hF rfl ?_; obtain ⟨x9, hx9, h⟩ := ap h; refine gv hF (oB (dX hx9)) (gv hF oM (SmG.nil ?_)); exact eZ (dN h hd4) (kA)
noncomputable def aA (a0 : List Ob) (a1 : List Ob) (a2 : (FnV Tryd.prog HG (α := Ob × Ob) (β := Bool) (fun x => [.agg 33 (Ob.row x.1), .agg 33 (Ob.row x.2)]) (fun y => .v (.bool y)))) (s2 : Int) : Option (Int ⊕ (Unit ⊕ Bool)) :=
 bif (decide (s2 < (a0.length : Int))) then (
  ob (idx a0 s2) fun x7 =>
  ob (idx a1 s2) fun x8 =>
  ob (a2.f (x7, x8)) fun x9 =>
  bif (!x9) then (
   some (.inr (.inr false))
  ) else (
   ob (arI .i64 (s2 + 1)) fun x11 =>
   some (.inl x11)
  )
 ) else (
  some (.inr (.inl ()))
 )
noncomputable def aH (a0 : List Ob) (a1 : List Ob) (a2 : (FnV Tryd.prog HG (α := Ob × Ob) (β := Bool) (fun x => [.agg 33 (Ob.row x.1), .agg 33 (Ob.row x.2)]) (fun y => .v (.bool y)))) : Option Bool :=
 bif ((a0.length : Int) != (a1.length : Int)) then (
  some false
 ) else (
  ob ((
   cP (aA a0 a1 a2) 0
   : Option (Unit ⊕ Bool))) fun o13 => match o13 with
  | .inl v12 => (
   some true
   )
  | .inr e14 => some e14
 )
set_option maxHeartbeats 4000000 in
theorem dK {a0 : List Ob} {a1 : List Ob} {a2 : (FnV Tryd.prog HG (α := Ob × Ob) (β := Bool) (fun x => [.agg 33 (Ob.row x.1), .agg 33 (Ob.row x.2)]) (fun y => .v (.bool y)))} {r : Bool} (h : aH a0 a1 a2 = some r) : aj Tryd.prog HG 36 [.list 33 (a0.map Ob.row) false, .list 33 (a1.map Ob.row) false, .fn a2.g a2.c] (.v (.bool r)) := by
 unfold aH at h; refine aj.of Tryd.func36 rfl Tryd.ntmps36 (by simp) ?_; intro F hF h0 hT; show Sm F _ _ ⟨[(0, .d (.list 33 (a0.map Ob.row) false)), (1, .d (.list 33 (a1.map Ob.row) false)), (2, .d (.fn a2.g a2.c))], [], 0⟩; refine sr hF (gv hF oA (sn (Sm.seq (sr hF (gv hF oM (gv hF (oN (eJ u24)) (gv hF oM (gv hF (oN (eJ u24)) ?_)))))))); refine gv hF (oB (yR)) (sn ?_); refine eV hF rfl (fun hc1 => ?_) (fun hc1 => ?_)
 ·replace h := ifT hc1 h; refine sr hF (gv hF oA (sn (Sm.ret ?_))); obtain rfl := aW h; exact lD rfl rfl
 replace h := ifF hc1 h; refine sk (Sm.seq ?_); obtain ⟨o13, ho13, h⟩ := ap h; rcases zb o13 with ⟨e14, rfl⟩ | ⟨v12, rfl⟩
 ·have he14 := aW h; subst he14; replace h := ho13; refine sr hF (gv hF oM (gv hF (oN (eJ u24)) (gv hF oM (sn (Sm.block ?_))))); refine eE (aA a0 a1 a2) (fun s2 => ⟨[(1, .d (.list 33 (a1.map Ob.row) false)), (2, .d (.fn a2.g a2.c)), (15, .d (.list 33 (a0.map Ob.row) false)), (16, .i (a0.length : Int)), (17, .i s2)], [], 0⟩) 0 h (kA) ?_; intro n3 s2 o4 h hd5; unfold aA at h; refine sr hF (gv hF (oB (gb)) (sn (Sm.seq ?_))); refine cN hF rfl (fun hc6 => ?_) (fun hc6 => ?_)
  ·replace h := ifF hc6 h; refine Sm.exit ?_; replace h := bV h hd5; cases h
  replace h := ifT hc6 h; refine sk (Sm.seq (Sm.block (sr hF (gv hF oM ?_)))); obtain ⟨x7, hx7, h⟩ := ap h; refine gv hF (oI (eI u24 fO hx7)) (gv hF (x := .d (.agg 33 (Ob.row x7))) (oL (kj rD fO rfl rfl)) ?_); refine SmG.new hF rfl rfl rfl (aF rfl zm) ?_; refine gv hF oA ?_; refine SmG.store hF rfl rfl rfl rfl rfl (tk x7 rfl rfl) ?_; refine sn (sr hF (gv hF oM (gv hF oM ?_))); obtain ⟨x8, hx8, h⟩ := ap h; refine gv hF (oI (eI u24 fO hx8)) (gv hF (x := .d (.agg 33 (Ob.row x8))) (oL (kj rD fO rfl rfl)) ?_); refine SmG.new hF rfl rfl rfl (aF rfl zm) ?_; refine SmG.store hF rfl rfl rfl rfl rfl (tk x8 rfl rfl) ?_; refine sn (sr hF (gv hF oM (gv hF (x := .d (.agg 33 (Ob.row x7))) (oL (nL (gu x7) rfl)) (gv hF (x := .d (.agg 33 (Ob.row x8))) (oL (nL (gu x8) rfl)) ?_)))); obtain ⟨x9, hx9, h⟩ := ap h; refine SmG.callF hF rfl rfl rfl rfl rfl rfl a2.body (a2.ok _ _ hx9) ?_; refine gv hF (eM rfl rfl (su _)) (sn ?_); refine cN hF rfl (fun hc10 => ?_) (fun hc10 => ?_)
  ·replace h := ifF hc10 h; refine Sm.skip ?_; refine aI (aa ?_); refine ab hF rfl ?_; obtain ⟨x11, hx11, h⟩ := ap h; refine gv hF (oB (dX hx11)) (gv hF oM (SmG.nil ?_)); exact eZ (dN h hd5) (aR (kA (e := [(1, .d (.list 33 (a1.map Ob.row) false)), (2, .d (.fn a2.g a2.c)), (15, .d (.list 33 (a0.map Ob.row) false)), (16, .i (a0.length : Int)), (17, .i x11)]) (g := []) (m := 2)) (xA 0))
  replace h := ifT hc10 h; refine sr hF (gv hF oA (sn (Sm.ret ?_))); replace h := bV h hd5; replace h := sW h; obtain rfl := aW h; exact lD rfl rfl
 refine iu ⟨[], [], 0⟩ ?_ ?_
 ·refine Sm.seq ?_; refine ab hF rfl ?_; refine gv hF oA (sn (Sm.ret ?_)); obtain rfl := aW h; exact lD rfl rfl
 replace h := ho13; refine sr hF (gv hF oM (gv hF (oN (eJ u24)) (gv hF oM (sn (Sm.block ?_))))); refine eE (aA a0 a1 a2) (fun s2 => ⟨[(1, .d (.list 33 (a1.map Ob.row) false)), (2, .d (.fn a2.g a2.c)), (15, .d (.list 33 (a0.map Ob.row) false)), (16, .i (a0.length : Int)), (17, .i s2)], [], 0⟩) 0 h (kA) ?_; intro n3 s2 o4 h hd5; unfold aA at h; refine sr hF (gv hF (oB (gb)) (sn (Sm.seq ?_))); refine cN hF rfl (fun hc6 => ?_) (fun hc6 => ?_)
 ·replace h := ifF hc6 h; refine Sm.exit ?_; replace h := bV h hd5; obtain rfl := aW (sV h); exact (kA)
 replace h := ifT hc6 h; refine sk (Sm.seq (Sm.block (sr hF (gv hF oM ?_)))); obtain ⟨x7, hx7, h⟩ := ap h; refine gv hF (oI (eI u24 fO hx7)) (gv hF (x := .d (.agg 33 (Ob.row x7))) (oL (kj rD fO rfl rfl)) ?_); refine SmG.new hF rfl rfl rfl (aF rfl zm) ?_; refine gv hF oA ?_; refine SmG.store hF rfl rfl rfl rfl rfl (tk x7 rfl rfl) ?_; refine sn (sr hF (gv hF oM (gv hF oM ?_))); obtain ⟨x8, hx8, h⟩ := ap h; refine gv hF (oI (eI u24 fO hx8)) (gv hF (x := .d (.agg 33 (Ob.row x8))) (oL (kj rD fO rfl rfl)) ?_); refine SmG.new hF rfl rfl rfl (aF rfl zm) ?_; refine SmG.store hF rfl rfl rfl rfl rfl (tk x8 rfl rfl) ?_; refine sn (sr hF (gv hF oM (gv hF (x := .d (.agg 33 (Ob.row x7))) (oL (nL (gu x7) rfl)) (gv hF (x := .d (.agg 33 (Ob.row x8))) (oL (nL (gu x8) rfl)) ?_)))); obtain ⟨x9, hx9, h⟩ := ap h; refine SmG.callF hF rfl rfl rfl rfl rfl rfl a2.body (a2.ok _ _ hx9) ?_; refine gv hF (eM rfl rfl (su _)) (sn ?_); refine eV hF rfl (fun hc10 => ?_) (fun hc10 => ?_)
 ·replace h := ifT hc10 h; refine sr hF (gv hF oA (sn (Sm.ret ?_))); replace h := bV h hd5; cases h
 replace h := ifF hc10 h; refine Sm.skip ?_; refine aI (aa ?_); refine ab hF rfl ?_; obtain ⟨x11, hx11, h⟩ := ap h; refine gv hF (oB (dX hx11)) (gv hF oM (SmG.nil ?_)); exact eZ (dN h hd5) (aR (kA (e := [(1, .d (.list 33 (a1.map Ob.row) false)), (2, .d (.fn a2.g a2.c)), (15, .d (.list 33 (a0.map Ob.row) false)), (16, .i (a0.length : Int)), (17, .i x11)]) (g := []) (m := 2)) (xA 0))
noncomputable def bX (a0 : zBz) (a1 : zBz) (s2 : Int) : Option (Int ⊕ (Unit ⊕ Bool)) :=
 bif (decide (s2 < (a0.length : Int))) then (
  ob (idx a0 s2) fun x7 =>
  ob (idx a1 s2) fun x8 =>
  bif ((x7.toNat : Int) != (x8.toNat : Int)) then (
   some (.inr (.inr false))
  ) else (
   ob (arI .i64 (s2 + 1)) fun x10 =>
   some (.inl x10)
  )
 ) else (
  some (.inr (.inl ()))
 )
noncomputable def dY (a0 : zBz) (a1 : zBz) : Option Bool :=
 bif ((a0.length : Int) != (a1.length : Int)) then (
  some false
 ) else (
  ob ((
   cP (bX a0 a1) 0
   : Option (Unit ⊕ Bool))) fun o12 => match o12 with
  | .inl v11 => (
   some true
   )
  | .inr e13 => some e13
 )
set_option maxHeartbeats 4000000 in
theorem lQ {a0 : zBz} {a1 : zBz} {r : Bool} (h : dY a0 a1 = some r) : aj Tryd.prog HG 35 [.list 1 (a0.map ai) false, .list 1 (a1.map ai) false] (.v (.bool r)) := by
 unfold dY at h; refine aj.of Tryd.func35 rfl Tryd.ntmps35 (by simp) ?_; intro F hF h0 hT; show Sm F _ _ ⟨[(0, .d (.list 1 (a0.map ai) false)), (1, .d (.list 1 (a1.map ai) false))], [], 0⟩; refine sr hF (gv hF oA (sn (Sm.seq (sr hF (gv hF oM (gv hF (oN (eJ u30)) (gv hF oM (gv hF (oN (eJ u30)) ?_)))))))); refine gv hF (oB (yR)) (sn ?_); refine eV hF rfl (fun hc1 => ?_) (fun hc1 => ?_)
 ·replace h := ifT hc1 h; refine sr hF (gv hF oA (sn (Sm.ret ?_))); obtain rfl := aW h; exact lD rfl rfl
 replace h := ifF hc1 h; refine sk (Sm.seq ?_); obtain ⟨o12, ho12, h⟩ := ap h; rcases zb o12 with ⟨e13, rfl⟩ | ⟨v11, rfl⟩
 ·have he13 := aW h; subst he13; replace h := ho12; refine sr hF (gv hF oM (gv hF (oN (eJ u30)) (gv hF oM (sn (Sm.block ?_))))); refine eE (bX a0 a1) (fun s2 => ⟨[(0, .d (.list 1 (a0.map ai) false)), (1, .d (.list 1 (a1.map ai) false)), (12, .i (a0.length : Int)), (13, .i s2)], [], 0⟩) 0 h (kA) ?_; intro n3 s2 o4 h hd5; unfold bX at h; refine sr hF (gv hF (oB (gb)) (sn (Sm.seq ?_))); refine cN hF rfl (fun hc6 => ?_) (fun hc6 => ?_)
  ·replace h := ifF hc6 h; refine Sm.exit ?_; replace h := bV h hd5; cases h
  replace h := ifT hc6 h; refine sk (Sm.seq (Sm.block (sr hF (gv hF oM (gv hF oA (sn (Sm.seq ?_))))))); refine dG hF 8 ?_; refine hv hF oM (hv hF oM ?_); obtain ⟨x7, hx7, h⟩ := ap h; refine hv hF (oI (eI u30 sz5 hx7)) (hv hF (oL (lP1 ag5 rfl)) (hv hF oM (hv hF oM ?_))); obtain ⟨x8, hx8, h⟩ := ap h; refine hv hF (oI (eI u30 sz5 hx8)) (hv hF (oL (lP1 ag5 rfl)) ?_); refine hE ?_; refine gv hF (oB (yR)) (sn ?_); refine cN hF rfl (fun hc9 => ?_) (fun hc9 => ?_)
  ·replace h := ifF hc9 h; refine Sm.skip ?_; refine aI (aa ?_); refine ab hF rfl ?_; obtain ⟨x10, hx10, h⟩ := ap h; refine gv hF (oB (dX hx10)) (gv hF oM (SmG.nil ?_)); exact eZ (dN h hd5) (kA)
  replace h := ifT hc9 h; refine sr hF (gv hF oA (sn (Sm.ret ?_))); replace h := bV h hd5; replace h := sW h; obtain rfl := aW h; exact lD rfl rfl
 refine iu ⟨[], [], 0⟩ ?_ ?_
 ·refine Sm.seq ?_; refine ab hF rfl ?_; refine gv hF oA (sn (Sm.ret ?_)); obtain rfl := aW h; exact lD rfl rfl
 replace h := ho12; refine sr hF (gv hF oM (gv hF (oN (eJ u30)) (gv hF oM (sn (Sm.block ?_))))); refine eE (bX a0 a1) (fun s2 => ⟨[(0, .d (.list 1 (a0.map ai) false)), (1, .d (.list 1 (a1.map ai) false)), (12, .i (a0.length : Int)), (13, .i s2)], [], 0⟩) 0 h (kA) ?_; intro n3 s2 o4 h hd5; unfold bX at h; refine sr hF (gv hF (oB (gb)) (sn (Sm.seq ?_))); refine cN hF rfl (fun hc6 => ?_) (fun hc6 => ?_)
 ·replace h := ifF hc6 h; refine Sm.exit ?_; replace h := bV h hd5; obtain rfl := aW (sV h); exact (kA)
 replace h := ifT hc6 h; refine sk (Sm.seq (Sm.block (sr hF (gv hF oM (gv hF oA (sn (Sm.seq ?_))))))); refine dG hF 8 ?_; refine hv hF oM (hv hF oM ?_); obtain ⟨x7, hx7, h⟩ := ap h; refine hv hF (oI (eI u30 sz5 hx7)) (hv hF (oL (lP1 ag5 rfl)) (hv hF oM (hv hF oM ?_))); obtain ⟨x8, hx8, h⟩ := ap h; refine hv hF (oI (eI u30 sz5 hx8)) (hv hF (oL (lP1 ag5 rfl)) ?_); refine hE ?_; refine gv hF (oB (yR)) (sn ?_); refine eV hF rfl (fun hc9 => ?_) (fun hc9 => ?_)
 ·replace h := ifT hc9 h; refine sr hF (gv hF oA (sn (Sm.ret ?_))); replace h := bV h hd5; cases h
 replace h := ifF hc9 h; refine Sm.skip ?_; refine aI (aa ?_); refine ab hF rfl ?_; obtain ⟨x10, hx10, h⟩ := ap h; refine gv hF (oB (dX hx10)) (gv hF oM (SmG.nil ?_)); exact eZ (dN h hd5) (kA)
noncomputable def eG (a0 : List Ob) (a1 : Int) : Option (List Ob) :=
 ob (slc a0 0 a1) fun x1 =>
 ob (arI .i64 (a1 + 1)) fun x2 =>
 ob (slc a0 x2 (a0.length : Int)) fun x3 =>
 ob (bH [x1, x3]) fun x4 =>
 some x4
set_option maxHeartbeats 4000000 in
theorem mP {a0 : List Ob} {a1 : Int} {r : List Ob} (h : eG a0 a1 = some r) : aj Tryd.prog HG 59 [.list 33 (a0.map Ob.row) false, .i a1] (.list 33 (r.map Ob.row) false) := by
 unfold eG at h; refine aj.of Tryd.func59 rfl Tryd.ntmps59 (by simp) ?_; intro F hF h0 hT; show Sm F _ _ ⟨[(0, .d (.list 33 (a0.map Ob.row) false)), (1, .i a1)], [], 0⟩; refine sr hF (gv hF oA (sn (Sm.seq ?_))); refine dG hF 7 ?_; refine hv hF oM (hv hF oM ?_); obtain ⟨x1, hx1, h⟩ := ap h; refine hv hF (bC rfl rfl rfl rfl rfl (DO u24 fO hx1)) (hv hF oM (hv hF oM ?_)); obtain ⟨x2, hx2, h⟩ := ap h; refine hv hF (oB (dX hx2)) ?_; obtain ⟨x3, hx3, h⟩ := ap h; refine hv hF (bC rfl rfl rfl rfl rfl (DP u24 fO hx3)) ?_; refine hE ?_; refine gv hF (x := .d (.list 1 ([x1, x3].map (kG 33 Ob.row)) true)) (oS (me AQ DW Lv rfl rfl (PartsQ.cons rfl (PartsQ.cons rfl (PartsQ.nil _))) rfl)) ?_; obtain ⟨x4, hx4, h⟩ := ap h; refine SmG.callO hF rfl rfl (by kernel_rfl) rfl rfl rfl (cc.args (ij hx4) (fun C => (oE (fun _ h => h)))) ?_; refine gv hF oA (sn ?_); refine Sm.to (aR (kA (e := [(4, .sref 0 0 (x4.map Ob.row).length)]) (g := [(0, dB 33 (x4.map Ob.row))]) (m := 1)) (fA (l := 0) (sz := 33) (e := [(4, .d (.list 33 (x4.map Ob.row) false))]) (g := []) (nx := 1) (x4.map Ob.row))) ?_; refine Sm.ret ?_; obtain rfl := aW h; exact lD rfl rfl
end
section
def Ok {α : Type} (x : Option α) (Q : α -> Prop) : Prop := ∃ v, x = some v /\ Q v
theorem aq {α β : Type} (v : α) (f : α -> Option β) : ob (some v) f = f v := rfl
theorem Ok.bind {α β : Type} {x : Option α} {f : α -> Option β} {P : α -> Prop} {Q : β -> Prop} (h : Ok x P) (k : ∀ v, P v -> Ok (f v) Q) : Ok (ob x f) Q := by
 obtain ⟨v, hv, hp⟩ := h; rw [fU hv]; exact k v hp
theorem Ok.eq {α β : Type} {x : Option α} {f : α -> Option β} {v : α} {Q : β -> Prop} (h : x = some v) (k : Ok (f v) Q) : Ok (Go.Proofs.YtaclinnjekdgoaaDoor.ob x f) Q := by rw [fU h]; exact k
theorem Ok.ret {α : Type} {v : α} {Q : α -> Prop} (h : Q v) : Ok (some v) Q := ⟨v, rfl, h⟩
theorem Ok.mono {α : Type} {x : Option α} {P Q : α -> Prop} (h : Ok x P) (k : ∀ v, P v -> Q v) : Ok x Q := by obtain ⟨v, h1, h2⟩ := h; exact ⟨v, h1, k v h2⟩
theorem Ok.cond {α : Type} {c : Bool} {x y : Option α} {Q : α -> Prop} (h1 : c = true -> Ok x Q) (h2 : c = false -> Ok y Q) : Ok (bif c then x else y) Q := by cases c <;> simp_all
theorem Ok.get {α : Type} {x : Option α} {v : α} (h : Ok x (· = v)) : x = some v := by obtain ⟨w, h1, rfl⟩ := h; exact h1
theorem Ok.loop {S E : Type} {body : S -> Option (S ⊕ E)} (I : S -> Prop) (m : S -> Nat) {R : E -> Prop} {s : S} (h0 : I s) (h : ∀ s, I s -> Ok (body s) fun o => match o with | .inl s' => I s' /\ m s' < m s | .inr e => R e) : Ok (cP body s) R := by
 obtain ⟨e, h1, h2⟩ := Hg I m (R := R) h0 fun s hs => by
  obtain ⟨o, h1, h2⟩ := h s hs; cases o with
  | inl s' => exact .inl ⟨s', h1, h2⟩
  | inr e => exact .inr ⟨e, h1, h2⟩
 exact ⟨e, h1, h2⟩
theorem gc {a b : Int} (h : a < b) : decide (a < b) = true := decide_eq_true h
theorem gn {a b : Int} (h : b <= a) : decide (a < b) = false := decide_eq_false (by omega)
theorem Iz {a b : Int} (h : a <= b) : decide (a <= b) = true := decide_eq_true h
theorem Iy {a b : Int} (h : b < a) : decide (a <= b) = false := decide_eq_false (by omega)
theorem qb {a b : Int} (h : a = b) : (a == b) = true := by simp [h]
theorem qa {a b : Int} (h : a ≠ b) : (a == b) = false := by simp [h]
theorem kJ {α : Type} {l : List α} {lo hi : Int} (h : 0 <= lo /\ lo <= hi /\ hi <= (l.length : Int)) : slc l lo hi = some ((l.take hi.toNat).drop lo.toNat) := if_pos h
end
section
theorem ra {α : Type} (ls : List (List α)) (i : Nat) (x : List α) (h : ls[i]? = some x) : (ls.take (i + 1)).flatten.length = (ls.take i).flatten.length + x.length /\ (ls.take (i + 1)).flatten = (ls.take i).flatten ++ x := by
 have hi := (List.getElem?_eq_some_iff.1 h).1; rw [List.take_add_one, h]; simp
theorem lJ {α : Type} (ls : List (List α)) (i : Nat) : (ls.take i).flatten.length <= ls.flatten.length := by
 have := congrArg (fun l => l.flatten.length) (List.take_append_drop i ls); simp only [List.flatten_append, List.length_append] at this; omega
theorem mK (n : Int) (h : 0 <= n /\ n <= 4294967296) : bO [] n = some [] := by
 refine Ok.get ?_; unfold bO; refine Ok.cond (fun c => ?_) fun _ => ?_
 ·simp only [decide_eq_true_eq] at c; omega
 ·rw [bQ (by omega), aq]; refine Ok.cond (fun c => ?_) fun _ => Ok.ret rfl
  simp only [decide_eq_true_eq] at c; have : wU (n - 0) = some (n - 0).toNat := if_pos (by omega); rw [this, aq]; exact Ok.ret rfl
theorem gU (ls : List (List Ob)) (h : ls.flatten.length <= 4294967296) (hl : ls.length <= 4294967296) : bH ls = some ls.flatten := by
 unfold bH; have h1 : cP (aP ls) (0, 0) = some (ls.flatten.length : Int) := by
  have := kC (body := aP ls) (fun i => (((ls.take i).flatten.length : Nat), (i : Int))) ls.length (e := (ls.flatten.length : Int)) (fun i hi => by
   have hx : ls[i]? = some (ls[i]'hi) := List.getElem?_eq_getElem _; generalize ls[i]'hi = x at hx; have hle := lJ ls (i + 1); have hst := (ra ls i x hx).1; unfold aP; simp only; rw [gc (by omega), cond_true, er, hx, aq, bQ (by omega), aq, gn (by omega), cond_false, bQ (by omega), aq, hst]; rfl) (by
   unfold aP; simp only [List.take_length]; rw [gn (by omega), cond_false])
  simpa using this
 rw [fU h1, fU (mK _ (by omega))]; have h2 : cP (aQ ls) (0, []) = some ls.flatten := by
  have := kC (body := aQ ls) (fun i => ((i : Int), (ls.take i).flatten)) ls.length (e := ls.flatten) (fun i hi => by
   have hx : ls[i]? = some (ls[i]'hi) := List.getElem?_eq_getElem _; generalize ls[i]'hi = x at hx; have hle := lJ ls (i + 1); obtain ⟨hst, hst2⟩ := ra ls i x hx; unfold aQ; simp only; rw [gc (by omega), cond_true, er, hx, aq, eF (by omega), aq, bQ (by omega), aq, hst2]; rfl) (by
   unfold aQ; simp only [List.take_length]; rw [gn (by omega), cond_false])
  simpa using this
 rw [fU h2]
theorem rV (n : Int) (h : 0 <= n /\ n <= 4294967296) : cJ [] n = some [] := by
 refine Ok.get ?_; unfold cJ; refine Ok.cond (fun c => ?_) fun _ => ?_
 ·simp only [decide_eq_true_eq] at c; omega
 ·rw [bQ (by omega), aq]; refine Ok.cond (fun c => ?_) fun _ => Ok.ret rfl
  simp only [decide_eq_true_eq] at c; have : wU (n - 0) = some (n - 0).toNat := if_pos (by omega); rw [this, aq]; exact Ok.ret rfl
theorem iz (ls : List (List zBz)) (h : ls.flatten.length <= 4294967296) (hl : ls.length <= 4294967296) : bj ls = some ls.flatten := by
 unfold bj; have h1 : cP (bp ls) (0, 0) = some (ls.flatten.length : Int) := by
  have := kC (body := bp ls) (fun i => (((ls.take i).flatten.length : Nat), (i : Int))) ls.length (e := (ls.flatten.length : Int)) (fun i hi => by
   have hx : ls[i]? = some (ls[i]'hi) := List.getElem?_eq_getElem _; generalize ls[i]'hi = x at hx; have hle := lJ ls (i + 1); have hst := (ra ls i x hx).1; unfold bp; simp only; rw [gc (by omega), cond_true, er, hx, aq, bQ (by omega), aq, gn (by omega), cond_false, bQ (by omega), aq, hst]; rfl) (by
   unfold bp; simp only [List.take_length]; rw [gn (by omega), cond_false])
  simpa using this
 rw [fU h1, fU (rV _ (by omega))]; have h2 : cP (bq ls) (0, []) = some ls.flatten := by
  have := kC (body := bq ls) (fun i => ((i : Int), (ls.take i).flatten)) ls.length (e := ls.flatten) (fun i hi => by
   have hx : ls[i]? = some (ls[i]'hi) := List.getElem?_eq_getElem _; generalize ls[i]'hi = x at hx; have hle := lJ ls (i + 1); obtain ⟨hst, hst2⟩ := ra ls i x hx; unfold bq; simp only; rw [gc (by omega), cond_true, er, hx, aq, eF (by omega), aq, bQ (by omega), aq, hst2]; rfl) (by
   unfold bq; simp only [List.take_length]; rw [gn (by omega), cond_false])
  simpa using this
 rw [fU h2]
def cC (x : zBz) : Vec 32 := ⟨Sha.sum x, Sha.out_length _⟩
def aM (l : List Ob) (k : zBz) : Option Nat := l.findIdx? fun o => o.sum.l == k
def cF (l : List Ob) (k : zBz) : Int := match aM l k with
 | some i => i
 | none => -1
theorem Jg (x : Ob) (k : Vec 32) : aj Tryd.prog HG 76 [.agg 33 (Ob.row x), .ptr 32 (ay k.l)] (.v (.bool (decide (x.sum.l = k.l)))) := by
 refine aj.of Tryd.func76 rfl Tryd.ntmps76 (by simp) ?_; intro F hF h0 hT; simp only [List.zipIdx_cons, List.zipIdx_nil, List.map_cons, List.map_nil, Nat.zero_add, Nat.reduceAdd]; refine Sm.seq ?_; refine ab hF rfl ?_; refine SmG.new hF rfl rfl rfl (fb rfl rfl (by rfl)) ?_; refine gv hF oA (SmG.nil (aa (Sm.seq ?_))); refine ab hF rfl ?_; refine gv hF (ag rfl rfl (by rfl)) ?_; refine gv hF (ae rfl rfl (lV (gu x) (jO x) rfl)) ?_; refine SmG.v (x := .d (.agg 32 (ay k.l))) hF rfl rfl rfl (ae rfl rfl (by simp only [aX, oZ, pp, Option.bind_some, seg]; simp)) ?_; refine gv hF (jP rfl rfl rfl (rP x.sum.h k.h)) (gv hF oA (SmG.nil (aa (Sm.ret ?_)))); exact ⟨_, rfl, D.le.refl _⟩
def LP (k : Vec 32) : FnV Tryd.prog HG (α := Ob) (β := Bool) (fun x => [.agg 33 (Ob.row x)]) (fun y => .v (.bool y)) :=
 ⟨76, [.ptr 32 (ay k.l)], fun x => some (decide (x.sum.l = k.l)), by kernel_rfl, fun x y h => by cases h; exact Jg x k⟩
theorem Fb (l : List Ob) (k : Vec 32) (hl : l.length <= 4294967296) : bT l (LP k) = some (cF l k.l) := by
 unfold bT; refine Ok.get ?_; refine Ok.bind (P := fun o => o = match aM l k.l with | some i => .inr (i : Int) | none => .inl ()) ?_ ?_
 ·refine Ok.loop (fun s : Int => ∃ i : Nat, s = i /\ i <= l.length /\ ∀ j x, j < i -> l[j]? = some x -> ¬ (x.sum.l = k.l)) (fun s : Int => l.length - s.toNat) ⟨0, rfl, by omega, fun j x h => by omega⟩ ?_; rintro _ ⟨i, rfl, h1, h2⟩; unfold aV; refine Ok.cond (fun c => ?_) fun c => Ok.ret ?_
  ·simp only [decide_eq_true_eq] at c; have hx : l[i]? = some (l[i]'(by omega)) := List.getElem?_eq_getElem _; generalize l[i]'(by omega) = x at hx; rw [er, hx, aq]; show Ok (ob (some (decide (x.sum.l = k.l))) _) _; rw [aq]; refine Ok.cond (fun c2 => Ok.ret ?_) fun c2 => ?_
   ·have hf : aM l k.l = some i := by
     unfold aM; rw [List.findIdx?_eq_some_iff_getElem]; refine ⟨by omega, ?_, fun j hj => ?_⟩
     ·rw [List.getElem?_eq_getElem (by omega)] at hx; rw [Option.some.inj hx]; simpa using c2
     ·have := h2 j _ hj (List.getElem?_eq_getElem (by omega)); simpa using this
    simp only [hf]
   ·rw [bQ (by omega), aq]; refine Ok.ret ⟨⟨i + 1, by omega, by omega, fun j y hj hy => ?_⟩, by omega⟩; by_cases e : j = i
    ·subst e; rw [hx] at hy; cases hy; simpa using c2
    ·exact h2 j y (by omega) hy
  ·simp only [decide_eq_false_iff_not] at c; have hf : aM l k.l = none := by
    unfold aM; rw [List.findIdx?_eq_none_iff]; intro x hx; obtain ⟨j, hj, e⟩ := List.getElem_of_mem hx; have := h2 j x (by omega) (by rw [List.getElem?_eq_getElem hj, e]); simpa using this
   simp only [hf]
 ·rintro o rfl; unfold cF; cases aM l k.l <;> exact Ok.ret rfl
theorem rU (l : List Ob) (k : Vec 32) (hl : l.length <= 4294967296) : aj Tryd.prog HG 58 [.list 33 (l.map Ob.row) false, .agg 32 (ay k.l)] (.v (.int .i64 (cF l k.l))) := by
 refine aj.of Tryd.func58 rfl Tryd.ntmps58 (by simp) ?_; intro F hF h0 hT; simp only [List.zipIdx_cons, List.zipIdx_nil, List.map_cons, List.map_nil, Nat.zero_add, Nat.reduceAdd]; refine Sm.seq ?_; refine ab hF rfl ?_; refine SmG.new hF rfl rfl rfl (fb rfl rfl (by rfl)) ?_; refine gv hF oA (SmG.nil (aa (Sm.seq ?_))); refine Sm.freeze (l := 0) [ay k.l] rfl ?_; simp only [Pk.v, cR, bf, bL,  reduceIte, Nat.reduceAdd, Nat.zero_add, List.length_map, List.length_append, Nat.le_refl, true_and, and_self, if_true, Nat.reduceEqDiff, true_and]; refine ab hF rfl ?_; refine gv hF oM (gv hF (Al (caps := [_]) rfl rfl) ?_); refine SmG.call hF rfl rfl (by kernel_rfl) rfl rfl rfl (gI (Fb l k hl)) ?_; refine gv hF oA (SmG.nil (aa (Sm.ret ?_))); exact ⟨_, rfl, D.le.refl _⟩
theorem Gf (l : List Ob) (i : Nat) (hl : l.length <= 1000000) (hi : i < l.length) : aj Tryd.prog HG 59 [.list 33 (l.map Ob.row) false, .v (.int .i64 i)] (.list 33 ((l.eraseIdx i).map Ob.row) false) := by
 refine mP (a0 := l) (a1 := (i : Int)) (r := l.eraseIdx i) ?_; unfold eG; rw [kJ (by omega), aq, bQ (by omega), aq, kJ (by omega), aq]; have e : [((l.take (i : Int).toNat).drop (0 : Int).toNat), ((l.take (l.length : Int).toNat).drop ((i : Int) + 1).toNat)].flatten = l.eraseIdx i := by
  rw [show ((i : Int) + 1).toNat = i + 1 by omega]; simp [List.eraseIdx_eq_take_drop_succ]
 rw [gU _ (by rw [e]; have := List.length_eraseIdx_le l i; omega) (by simp), aq, e]
theorem BS (l : zBz) (hl : l.length <= 1000000) : aj Tryd.prog HG 60 [.list 1 (l.map ai) false] (.list 1 (l.map ai) false) := by
 refine aj.of Tryd.func60 rfl Tryd.ntmps60 (by simp) ?_; intro F hF h0 hT; simp only [List.zipIdx_cons, List.zipIdx_nil, List.map_cons, List.map_nil, Nat.zero_add, Nat.reduceAdd]; refine Sm.seq ?_; refine ab hF rfl ?_; refine gv hF oA (SmG.nil (aa (Sm.seq (Sm.seq ?_)))); refine ab hF rfl ?_; refine gv hF oM ?_; refine xn hF rfl rfl rfl rfl rfl Tryd.underlying30 fun b hb => ?_
 refine SmG.nil (aa ?_); cases b
 ·refine aS hF rfl ?_; refine Sm.skip ?_; refine aa (Sm.seq ?_); refine ab hF rfl ?_; refine gv hF (bc rfl rfl (by rfl)) ?_; refine gv hF oM ?_; refine SmG.append hF lf rfl rfl rfl rfl rfl rfl (Or.inr rfl) (Or.inl rfl) (by simp; omega) (by simp; omega) ?_; refine gv hF oA (SmG.nil (aa (Sm.ret ?_))); exact ⟨_, rfl, D.le.refl _⟩
 ·have hn : l = [] := by simpa using hb rfl
  subst hn; refine aZ hF rfl ?_; refine Sm.seq ?_; refine ab hF rfl ?_; refine gv hF oA (SmG.nil (aa (Sm.ret ?_))); simp only [ba, bR]; exact ⟨_, rfl, ck 0 1 true⟩
theorem EI (l : List Ob) : aj Tryd.prog HG 61 [.list 33 (l.map Ob.row) false] (.list 33 (l.map Ob.row) true) := by
 refine aj.of Tryd.func61 rfl Tryd.ntmps61 (by simp) ?_; intro F hF h0 hT; simp only [List.zipIdx_cons, List.zipIdx_nil, List.map_cons, List.map_nil, Nat.zero_add, Nat.reduceAdd]; refine Sm.seq ?_; refine ab hF rfl ?_; refine gv hF oA (SmG.nil (aa (Sm.seq ?_))); refine ab hF rfl ?_; refine gv hF oM (gv hF oM ?_); refine gv hF (aJ rfl rfl (by rfl)) ?_; refine gv hF oM ?_; refine gv hF (aJ rfl rfl (by rfl)) ?_; refine gv hF (bC rfl rfl rfl rfl rfl (by simp (disch := omega) only [go_sem] <;> rfl)) ?_; refine gv hF oA (SmG.nil (aa (Sm.ret ?_))); have h : List.take l.length (List.map Ob.row l) = List.map Ob.row l := List.take_of_length_le (by simp); exact ⟨_, rfl, by rw [h]; exact D.le.refl _⟩
end
section
def gF (objs : List Ob) (x : zBz) (rest : Nat) : Option (List Ob) :=
 if rest ≠ 0 then none else
 if x.length <= 65536 /\ aM objs (Sha.sum x) = none /\ objs.length < 256 then some (objs ++ [⟨cC x, x⟩]) else none
def fP (objs : List Ob) (x : zBz) (rest : Nat) : Option (List Ob) :=
 if rest ≠ 0 then none else
 match aM objs x with
 | none => none
 | some i => some (objs.eraseIdx i)
def gl (objs : List Ob) (k : Nat) (r : zBz) : Option (List Ob) :=
 if k = 80 then
  if r.length < 4 \/ r.length - 4 < be (r.take 4) then none else
  gF objs ((r.drop 4).take (be (r.take 4))) ((r.drop 4).drop (be (r.take 4))).length
 else if k = 68 then
  if r.length < 32 then none else
  fP objs (r.take 32) (r.drop 32).length
 else none
def rG (objs : List Ob) (n : Nat) : zBz -> Option (List Ob)
 | [] => none
 | kind :: r =>
  if r.length < 4 then none else
  if be (r.take 4) ≠ n then none else
  gl objs kind.toNat (r.drop 4)
theorem eD (objs : List Ob) (n : Nat) (kind : UInt8) (r : zBz) : rG objs n (kind :: r) = if r.length < 4 then none else if be (r.take 4) ≠ n then none else gl objs kind.toNat (r.drop 4) := rfl
def bw (objs : List Ob) (n : Nat) (b : zBz) : Option (List Ob) :=
 if b.length < 32 then none else
 if Sha.sum (b.take (b.length - 32)) ≠ b.drop (b.length - 32) then none else
 rG objs n (b.take (b.length - 32))
def stB (objs : List Ob) (S Qv : V) : Blk := ⟨3, [[.d (.list 33 (objs.map Ob.row) false), S, Qv]]⟩
def rz (objs : List Ob) (n : Nat) (b : zBz) (m : Nat) (S Qv : V) (h : zHz) (n0 : Nat) (q : Rt) (h' : zHz) (n1 : Nat) : Prop :=
 n0 <= n1 /\ (∀ k, k < n0 -> k ≠ m -> look h' k = look h k) /\
 match bw objs n b with
 | some o' => q = .ret (.d (.tup [])) /\ look h' m = some (stB o' S Qv)
 | none => q = .pan ii /\ look h' m = some (stB objs S Qv)
theorem IP (objs : List Ob) (n : Nat) (b : zBz) (m : Nat) (S Qv : V) (h : zHz) (n0 : Nat) (hm : m < n0) (hl : look h m = some (stB objs S Qv)) (hS : hU Tryd.prog 25 S = some (.d (.v (.int .i64 n)))) (hb : b.length <= 1000000) (ho : objs.length <= 1000000) :
  ee Tryd.prog HG 38 h n0 [.ref m 0 0, .d (.list 1 (b.map ai) false)] (rz objs n b m S Qv h n0) := by
 unfold stB at hl; have hnone : ∀ (k : bw objs n b = none) {h' : zHz} {n1 : Nat}, n0 <= n1 -> (∀ k, k < n0 -> look h' k = look h k) -> rz objs n b m S Qv h n0 (.pan ii) h' n1 := by
  intro k h' n1 h1 h2; refine ⟨h1, fun k hk _ => h2 k hk, ?_⟩; rw [k]; exact ⟨rfl, by rw [h2 m hm]; exact hl⟩
 refine ee.of Tryd.func38 rfl Tryd.ntmps38 (by simp) ?_; intro F hF h0 hT; simp only [List.zipIdx_cons, List.zipIdx_nil, List.map_cons, List.map_nil, Nat.zero_add, Nat.reduceAdd]; refine Sm.seq ?_; refine ab hF rfl ?_; refine gv hF oM ?_; refine gv hF (aJ rfl rfl (by simp only [go_sem, hl, hS, ac, <- List.map_take, <- List.map_drop] <;> rfl)) ?_; refine gv hF (ah rfl rfl rfl (by exact sq _ _ _ _ _ _ _)) ?_; refine tb hF rfl rfl rfl rfl rfl (by omega) (fun hc => hnone (by unfold bw; rw [if_pos (by simp at hc; omega)]) (Nat.le_refl _) fun _ _ => rfl) (fun hc => ?_); refine SmG.nil (aa (Sm.seq ?_)); refine ab hF rfl ?_; have hc1 : 32 <= b.length := (by simp at hc; omega); obtain ⟨E, hE⟩ : ∃ E, b.length = E + 32 := ⟨b.length - 32, (by omega)⟩; have hE2 : (b.length : Int) - 32 = (E : Int) := (by omega); have hE3 : b.length - 32 = E := (by omega); have hlb : (b.take E).length = E := (by simp; omega); have hlt : (b.drop E).length = 32 := (by simp; omega); clear hc; refine gv hF oM ?_; refine gv hF (aJ rfl rfl (by simp only [go_sem, hl, hS, ac, <- List.map_take, <- List.map_drop] <;> rfl)) ?_; refine gv hF (ah rfl rfl rfl ((ib _ _ _ _ _ (aY _ (by omega))).trans (by rw [hE2]))) ?_; refine gv hF oA (SmG.nil (aa (Sm.seq ?_))); refine dD hF rfl ?_; refine ik hF rfl 0 10 (by kernel_rfl) ?_; simp only [List.take_succ_cons, List.take_zero, List.take_nil, List.drop_succ_cons, List.drop_zero, Nat.reduceSub]; refine hv hF oM (hv hF oM ?_); refine hv hF (bC rfl rfl rfl rfl rfl (by simp (disch := omega) only [go_sem, Nat.reduceEqDiff, aE, hl, hS, ac, <- List.map_take, <- List.map_drop] <;> rfl)) ?_; refine au.c hF rfl rfl (by kernel_rfl) rfl rfl rfl (wd _ (by omega)) ?_; refine hv hF oM (hv hF oM ?_); refine hv hF (bC rfl rfl rfl rfl rfl (by simp (disch := omega) only [go_sem, Nat.reduceEqDiff, aE, hl, hS, ac, <- List.map_take, <- List.map_drop] <;> rfl)) ?_; refine au.gives hF rfl rfl rfl (rC hF rfl rfl Tryd.underlying42 hlt (by decide)) ?_; refine hv hF (ae rfl rfl (by simp only [go_sem, hl, hS, ac, <- List.map_take, <- List.map_drop] <;> rfl)) ?_
 refine hv hF (jP rfl rfl rfl (rP (Sha.out_length _) hlt)) ?_; refine au.last ?_; simp only [List.nil_append, List.cons_append]; refine lO hF 10 rfl (by kernel_rfl) rfl ?_; refine tb hF rfl rfl rfl rfl rfl (by omega) (fun hc => hnone (by unfold bw; rw [if_neg (by omega), hE3, if_pos (by simpa using hc)]) (Nat.le_refl _) fun _ _ => rfl) (fun hc => ?_); refine SmG.nil (aa ?_); refine SmA.nil (Nat.le_of_ble_eq_true rfl) ?_; refine aa (Sm.seq ?_); refine ab hF rfl ?_; refine gv hF oM (gv hF oM ?_); refine gv hF (bC rfl rfl rfl rfl rfl (by simp (disch := omega) only [go_sem, Nat.reduceEqDiff, aE, hl, hS, ac, <- List.map_take, <- List.map_drop] <;> rfl)) ?_; refine gv hF (cZ rfl Tryd.underlying103 (by kernel_rfl) rfl (by simp only [go_sem, hl, hS, ac, <- List.map_take, <- List.map_drop] <;> rfl)) ?_; refine SmG.new hF rfl rfl rfl (fb rfl rfl (by simp only [go_sem, hl, hS, ac, <- List.map_take, <- List.map_drop] <;> rfl)) ?_; refine gv hF oA (SmG.nil (aa (Sm.seq ?_))); refine ab hF rfl ?_; refine gv hF oM ?_; have hA : bw objs n b = rG objs n (b.take E) := by
  unfold bw; rw [if_neg (by omega), hE3, if_neg (by simpa using hc)]
 have hmn : ¬ n0 = m := by omega
 clear hc; generalize b.take E = B at hA hlb; have hBb : B.length <= 1000000 := by omega
 refine dL hF (xs := [_, _]) rfl rfl (by kernel_rfl) rfl rfl rfl (by omega) (we B n0 ((n0, rdB B) :: h) (n0 + 1) 1 (by simp [look])) ?_ ?_
 rotate_left
 ·rintro ch h1 n1 ⟨rfl, ⟨_, _, e, _⟩ | ⟨hle, e, rfl⟩⟩ <;> cases e
  refine hnone ?_ (Nat.le_succ _) fun k hk => ?_
  ·have : B = [] := List.eq_nil_of_length_eq_zero (by omega); rw [hA, this]; rfl
  ·simp only [look]; rw [if_neg (by omega)]
 rintro v h1 n1 ⟨rfl, ⟨_, hle, e, rfl⟩ | ⟨_, e, _⟩⟩ <;> cases e
 obtain ⟨kind, r1, rfl⟩ : ∃ kind r1, B = kind :: r1 := by
  cases B with
  | nil => simp at hle
  | cons a l => exact ⟨a, l, rfl⟩
 simp only [rep, if_true, show (1 : Int).toNat = 1 from rfl, List.take_succ_cons, List.take_zero, List.drop_succ_cons, List.drop_zero]; have hr1 : r1.length <= 1000000 := by simp at hBb; omega
 have hnoneR : ∀ (x : Blk), bw objs n b = none -> rz objs n b m S Qv h n0 (.pan ii) ((n0, x) :: h) (n0 + 1) := fun x hx =>
  hnone hx (Nat.le_succ _) fun k hk => by simp only [look]; rw [if_neg (by omega)]
 have hpanN : ∀ ch h' n1, Km r1 n0 ((n0, rdB r1) :: h) (n0 + 1) (.pan ch) h' n1 -> rz objs n b m S Qv h n0 (.pan ch) h' n1 := by
  rintro ch h1 n1 ⟨rfl, ⟨_, e, _⟩ | ⟨hle, e, rfl⟩⟩ <;> cases e
  refine hnoneR _ ?_; rw [hA, eD, if_pos hle]
 have hmu : ∀ {x : Blk}, 4 <= r1.length -> ((be (r1.take 4) : Int) == (n : Int)) = false -> rz objs n b m S Qv h n0 (.pan ii) ((n0, x) :: h) (n0 + 1) := fun h4 hc => by
  refine hnoneR _ ?_; rw [hA, eD, if_neg (by omega), if_pos (by simp at hc; omega)]
 refine gv hF (ak rfl rfl rfl (by simp only [go_sem, hl, hS, ac, ai, aG, rdB, hmn] <;> rfl)) ?_; refine gv hF (ae rfl rfl (by simp only [go_sem, hl, hS, ac, ai, aG, rdB, hmn] <;> rfl)) ?_; refine gv hF oA (SmG.nil (aa (Sm.seq ?_))); refine BJ (ι := {H : Blk // 4 <= r1.length /\ be (r1.take 4) = n /\ H = rdB (r1.drop 4)}) (fun H => ⟨[(0, .ref m 0 0), (5, .ref n0 0 0), (6, .d (.v (.int .u8 kind.toNat)))], (n0, H.1) :: h, n0 + 1⟩) ?_ ?_
 rotate_left
 ·refine dD hF rfl ?_; refine pq (n := 9) rfl rfl ?_; refine nu (φ := 4 <= r1.length) (n' := 2) (ls' := [true, true, true, true, true, true, true, false, false]) ?s1_9 ?h1_9 (fun r1_9 => ?k1_9)
  case' k1_9 => refine nu (φ := 4 <= r1.length) (n' := 3) (ls' := [true, true, true, true, true, true, false, false, false]) ?s1_8 ?h1_8 (fun r1_8 => ?k1_8)
  case' k1_8 => refine cu (n' := 3) (ls' := [true, false, true, true, true, true, true, false, false]) ?s1_7 ?h1_7 (fun r1_7 => ?k1_7)
  case' k1_7 => refine nu (φ := 4 <= r1.length) (n' := 4) (ls' := [true, true, true, true, true, false, false, false, false]) ?s1_6 ?h1_6 (fun r1_6 => ?k1_6)
  case' k1_6 => refine cu (n' := 4) (ls' := [true, false, true, true, true, true, false, false, false]) ?s1_5 ?h1_5 (fun r1_5 => ?k1_5)
  case' k1_5 => refine nu (φ := 4 <= r1.length) (n' := 5) (ls' := [true, true, true, true, false, false, false, false, false]) ?s1_4 ?h1_4 (fun r1_4 => ?k1_4)
  case' k1_4 => refine cu (n' := 5) (ls' := [true, false, true, true, true, false, false, false, false]) ?s1_3 ?h1_3 (fun r1_3 => ?k1_3)
  case' k1_3 => refine nu (φ := 4 <= r1.length) (n' := 6) (ls' := [true, true, true, false, false, false, false, false, false]) ?s1_2 ?h1_2 (fun r1_2 => ?k1_2)
  case' k1_2 => refine cu (n' := 6) (ls' := [true, false, true, true, false, false, false, false, false]) ?s1_1 ?h1_1 (fun r1_1 => ?k1_1)
  case' k1_1 => refine cu (n' := 7) (ls' := [true, false, true, false, false, false, false, false, false]) ?s1_0 ?h1_0 (fun r1_0 => ?k1_0)
  case k1_0 =>
   refine SmM.step hF [0, 2] rfl (by kernel_rfl) rfl ⟨⟨_, rfl, ?_⟩, ⟨_, rfl, ?_⟩, trivial⟩
   ·refine gv hF oM (SmG.nil (aa ?_)); refine SmM.step hF [1, 2] rfl (by kernel_rfl) rfl ⟨⟨_, rfl, ?_⟩, ⟨_, rfl, ?_⟩, trivial⟩
    ·refine dL hF (xs := [_]) rfl rfl (by kernel_rfl) rfl rfl rfl (by omega) (kD r1 n0 ((n0, rdB r1) :: h) (n0 + 1) (by simp [look])) ?_ hpanN; rintro v h' n1 ⟨rfl, ⟨h4, e, rfl⟩ | ⟨_, e, _⟩⟩ <;> cases e
     simp only [rep, if_true]; refine SmG.nil (aa ?_); refine SmM.step hF [2] rfl (by kernel_rfl) rfl ⟨⟨_, rfl, ?_⟩, trivial⟩; refine gv hF oM (SmG.nil (aa ?_)); exact (r1_2 h4)
    ·refine gv hF oM (SmG.nil (aa ?_)); exact r1_0
   ·refine gv hF oM (SmG.nil (aa ?_)); refine SmM.step hF [0, 3] rfl (by kernel_rfl) rfl ⟨⟨_, rfl, ?_⟩, ⟨_, rfl, ?_⟩, trivial⟩
    ·refine gv hF oM (SmG.nil (aa ?_)); exact bA r1_0
    ·refine gv hF (bt rfl rfl) ?_; refine SmG.nil (aa ?_); refine SmM.step hF [0, 4] rfl (by kernel_rfl) rfl ⟨⟨_, rfl, ?_⟩, ⟨_, rfl, ?_⟩, trivial⟩
     ·refine gv hF oM (SmG.nil (aa ?_)); exact r1_1
     ·refine gv hF (ag rfl rfl (by simp only [go_sem, hl, hS, ac, ai, aG, rdB, hmn] <;> rfl)) ?_; refine SmG.nil (aa ?_); refine SmM.step hF [0, 5] rfl (by kernel_rfl) rfl ⟨⟨_, rfl, ?_⟩, ⟨_, rfl, ?_⟩, trivial⟩
      ·refine gv hF oM (SmG.nil (aa ?_)); exact r1_3
      ·refine gv hF (ae rfl rfl (by simp only [go_sem, hl, hS, ac, ai, aG, rdB, hmn] <;> rfl)) ?_; refine SmG.nil (aa ?_); refine SmM.step hF [0, 6] rfl (by kernel_rfl) rfl ⟨⟨_, rfl, ?_⟩, ⟨_, rfl, ?_⟩, trivial⟩
       ·refine gv hF oM (SmG.nil (aa ?_)); exact r1_5
       ·refine gv hF (aJ rfl rfl hS) (SmG.nil (aa ?_)); refine SmM.step hF [0] rfl (by kernel_rfl) rfl ⟨⟨_, rfl, ?_⟩, trivial⟩; refine gv hF oM (SmG.nil (aa ?_)); exact r1_7
  case h1_0 =>
   refine SmM.step hF [1, 3] rfl (by kernel_rfl) rfl ⟨⟨_, rfl, ?_⟩, ⟨_, rfl, ?_⟩, trivial⟩
   ·refine dL hF (xs := [_]) rfl rfl (by kernel_rfl) rfl rfl rfl (by omega) (kD r1 n0 ((n0, rdB r1) :: h) (n0 + 1) (by simp [look])) ?_ hpanN; rintro v h' n1 ⟨rfl, ⟨h4, e, rfl⟩ | ⟨_, e, _⟩⟩ <;> cases e
    simp only [rep, if_true]; refine SmG.nil (aa ?_); exact bA (r1_2 h4)
   ·refine gv hF (bt rfl rfl) ?_; refine SmG.nil (aa ?_); exact bA r1_1
  case h1_1 =>
   refine SmM.step hF [1, 4] rfl (by kernel_rfl) rfl ⟨⟨_, rfl, ?_⟩, ⟨_, rfl, ?_⟩, trivial⟩
   ·refine dL hF (xs := [_]) rfl rfl (by kernel_rfl) rfl rfl rfl (by omega) (kD r1 n0 ((n0, rdB r1) :: h) (n0 + 1) (by simp [look])) ?_ hpanN; rintro v h' n1 ⟨rfl, ⟨h4, e, rfl⟩ | ⟨_, e, _⟩⟩ <;> cases e
    simp only [rep, if_true]; refine SmG.nil (aa ?_); exact (r1_4 h4)
   ·refine gv hF (ag rfl rfl (by simp only [go_sem, hl, hS, ac, ai, aG, rdB, hmn] <;> rfl)) ?_; refine SmG.nil (aa ?_); exact bA r1_3
  case h1_2 =>
   intro h4; refine SmM.step hF [3] rfl (by kernel_rfl) rfl ⟨⟨_, rfl, ?_⟩, trivial⟩; refine gv hF (bt rfl rfl) ?_; refine SmG.nil (aa ?_); exact bA (r1_4 h4)
  case h1_3 =>
   refine SmM.step hF [1, 5] rfl (by kernel_rfl) rfl ⟨⟨_, rfl, ?_⟩, ⟨_, rfl, ?_⟩, trivial⟩
   ·refine dL hF (xs := [_]) rfl rfl (by kernel_rfl) rfl rfl rfl (by omega) (kD r1 n0 ((n0, rdB r1) :: h) (n0 + 1) (by simp [look])) ?_ hpanN; rintro v h' n1 ⟨rfl, ⟨h4, e, rfl⟩ | ⟨_, e, _⟩⟩ <;> cases e
    simp only [rep, if_true]; refine SmG.nil (aa ?_); exact (r1_6 h4)
   ·refine gv hF (ae rfl rfl (by simp only [go_sem, hl, hS, ac, ai, aG, rdB, hmn] <;> rfl)) ?_; refine SmG.nil (aa ?_); exact bA r1_5
  case h1_4 =>
   intro h4; refine SmM.step hF [4] rfl (by kernel_rfl) rfl ⟨⟨_, rfl, ?_⟩, trivial⟩; refine gv hF (ag rfl rfl (by simp only [go_sem, hl, hS, ac, ai, aG, rdB, hmn] <;> rfl)) ?_; refine SmG.nil (aa ?_); exact bA (r1_6 h4)
  case h1_5 =>
   refine SmM.step hF [1, 6] rfl (by kernel_rfl) rfl ⟨⟨_, rfl, ?_⟩, ⟨_, rfl, ?_⟩, trivial⟩
   ·refine dL hF (xs := [_]) rfl rfl (by kernel_rfl) rfl rfl rfl (by omega) (kD r1 n0 ((n0, rdB r1) :: h) (n0 + 1) (by simp [look])) ?_ hpanN; rintro v h' n1 ⟨rfl, ⟨h4, e, rfl⟩ | ⟨_, e, _⟩⟩ <;> cases e
    simp only [rep, if_true]; refine SmG.nil (aa ?_); exact (r1_8 h4)
   ·refine gv hF (aJ rfl rfl hS) (SmG.nil (aa ?_)); exact bA r1_7
  case h1_6 =>
   intro h4; refine SmM.step hF [5] rfl (by kernel_rfl) rfl ⟨⟨_, rfl, ?_⟩, trivial⟩; refine gv hF (ae rfl rfl (by simp only [go_sem, hl, hS, ac, ai, aG, rdB, hmn] <;> rfl)) ?_; refine SmG.nil (aa ?_); exact bA (r1_8 h4)
  case h1_7 =>
   refine SmM.step hF [1] rfl (by kernel_rfl) rfl ⟨⟨_, rfl, ?_⟩, trivial⟩; refine dL hF (xs := [_]) rfl rfl (by kernel_rfl) rfl rfl rfl (by omega) (kD r1 n0 ((n0, rdB r1) :: h) (n0 + 1) (by simp [look])) ?_ hpanN; rintro v h' n1 ⟨rfl, ⟨h4, e, rfl⟩ | ⟨_, e, _⟩⟩ <;> cases e
   simp only [rep, if_true]; refine SmG.nil (aa ?_); exact (r1_9 h4)
  case h1_8 =>
   intro h4; refine SmM.step hF [6] rfl (by kernel_rfl) rfl ⟨⟨_, rfl, ?_⟩, trivial⟩; refine gv hF (aJ rfl rfl hS) (SmG.nil (aa ?_)); exact bA (r1_9 h4)
  case h1_9 =>
   intro h4; refine SmM.step hF [7] rfl (by kernel_rfl) rfl ⟨⟨_, rfl, ?_⟩, trivial⟩; refine gv hF (ah rfl rfl rfl (by exact my _ _ _ _ _ _ _)) ?_; refine SmG.nil (aa ?_); refine SmM.step hF [8] rfl (by kernel_rfl) rfl ⟨⟨_, rfl, ?_⟩, trivial⟩; refine tb hF rfl rfl rfl rfl rfl (by omega) (fun hc => hmu h4 hc) (fun hc => ?_); refine SmG.nil (aa ?_); refine SmM.nil (by kernel_rfl) ?_; refine aa ?_; exact ⟨⟨_, h4, by simp at hc; omega, rfl⟩, wm ⟨rfl, rfl, rfl, trivial⟩⟩
 rintro ⟨H, h4, hn4, rfl⟩; simp only; have hA2 : bw objs n b = gl objs kind.toNat (r1.drop 4) := by rw [hA, eD, if_neg (by omega), if_neg (by simp [hn4])]
 have hr2 : (r1.drop 4).length <= 1000000 := by simp; omega
 generalize r1.drop 4 = r2 at hA2 hr2; clear hA hpanN hmu hn4; refine Sm.seq ?_; refine ab hF rfl ?_; refine IM (r := n0) (k := (kind.toNat : Int)) (n1 := 80) (n2 := 68) (f := 56) (g := 57) (s := 5) (y := 6) (kk := .u8) hF Tryd.underlying107 Tryd.underlying5 (by kernel_rfl) rfl rfl rfl rfl rfl rfl rfl rfl rfl rfl rfl rfl (by decide) rfl (by decide) rfl rfl ?_; by_cases k80 : kind.toNat = 80
 ·rw [show qX 56 57 80 68 (kind.toNat : Int) n0 = .clo 56 [.r n0 0] [] from by unfold qX; rw [if_pos (by omega)]]; refine gv hF oA (SmG.nil (aa (Sm.seq ?_))); refine ab hF rfl ?_; refine gv hF oM ?_; refine xm hF rfl rfl rfl rfl rfl Tryd.underlying106 ?_; refine vD hF rfl rfl rfl rfl rfl (by omega) ?_; refine SmG.nil (aa (Sm.seq ?_)); refine ab hF rfl ?_; refine gv hF oM ?_; refine uD hF (xs := []) rfl rfl (by kernel_rfl) rfl rfl rfl rfl (by omega) (Kt r2 n0 _ _ (by simp [look])) ?_ ?_
  rotate_left
  ·rintro ch h1 n1 ⟨rfl, ⟨_, _, e, _⟩ | ⟨hle, e, hlo⟩⟩ <;> cases e
   refine hnone (by rw [hA2]; unfold gl; rw [if_pos k80, if_pos hle]) (Nat.le_succ _) fun k hk => ?_
   rw [hlo k (by omega)]; simp only [look]; rw [if_neg (by omega)]
  rintro v h1 n1 ⟨rfl, ⟨g4, gle, e, hr, hlo⟩ | ⟨_, e, _⟩⟩ <;> cases e
  have hm1 : look h1 m = some ⟨3, [[.d (.list 33 (objs.map Ob.row) false), S, Qv]]⟩ := by rw [hlo m (by omega)]; simp only [look]; rw [if_neg hmn]; exact hl
  have hlow : ∀ k, k < n0 -> look h1 k = look h k := fun k hk => by rw [hlo k (by omega)]; simp only [look]; rw [if_neg (by omega)]
  have hA3 : bw objs n b = gF objs ((r2.drop 4).take (be (r2.take 4))) ((r2.drop 4).drop (be (r2.take 4))).length := by
   rw [hA2]; unfold gl; rw [if_pos k80, if_neg (by omega)]
  have hx : ((r2.drop 4).take (be (r2.take 4))).length <= 1000000 := by simp; omega
  generalize (r2.drop 4).take (be (r2.take 4)) = x at hA3 hx; generalize (r2.drop 4).drop (be (r2.take 4)) = rest at hA3 hr; unfold rdB at hr; obtain ⟨sx, hsx, hsv⟩ : ∃ sx : Vec 32, sx.l = Sha.sum x /\ sx = cC x := ⟨cC x, rfl, rfl⟩
  have hsl : sx.l.length = 32 := sx.h; have hrl : (ay sx.l).length = 32 := cQ hsl; have csum := wd x hx; rw [<- hsx] at csum; obtain ⟨R, hR⟩ : ∃ R, R = Ob.row ⟨sx, x⟩ := ⟨_, rfl⟩
  have hRl : R.length = 33 := by rw [hR]; simp [Ob.row, hrl]
  have hRt : R.take 32 = ay sx.l := by rw [hR]; simp [Ob.row, hrl]
  have hbo := tR sx x; rw [<- hR] at hbo; have hcn : (rest.length = 0) -> ¬ (x.length <= 65536 /\ aM objs (Sha.sum x) = none /\ objs.length < 256) -> bw objs n b = none := fun h1 h2 => by
   rw [hA3]; unfold gF; rw [if_neg (by omega), if_neg h2]
  refine gv hF oA (SmG.nil (aa (Sm.seq ?_))); refine ab hF rfl ?_; refine gv hF oM ?_; refine gv hF (bt rfl rfl) ?_; refine gv hF (ag rfl rfl (by simp only [go_sem, hr, hm1, hS, ac, ai, aG, hsl] <;> rfl)) ?_; refine gv hF (ae rfl rfl (by simp only [go_sem, hr, hm1, hS, ac, ai, aG, hsl] <;> rfl)) ?_; refine gv hF (aJ rfl rfl (by simp only [go_sem, hr, hm1, hS, ac, ai, aG, hsl] <;> rfl)) ?_; refine gv hF (ah rfl rfl rfl (by exact my _ _ _ _ _ _ _)) ?_; refine tb hF rfl rfl rfl rfl rfl (by omega) (fun hc => hnone (by rw [hA3]; unfold gF; rw [if_pos (by intro e; rw [e] at hc; simp at hc)]) (Nat.le_succ _) hlow) (fun hc => ?_); refine SmG.nil (aa (Sm.seq (Sm.seq ?_))); refine ab hF rfl ?_; refine gv hF oM ?_; refine gv hF (ah rfl rfl rfl (by exact jQ _ _ _ _ _ (by omega))) ?_; refine SmG.nil (aa ?_); refine aS hF rfl ?_; refine Sm.skip ?_; refine aa (Sm.seq ?_); refine ab hF rfl ?_; refine gv hF oM ?_; refine SmG.call hF rfl rfl (by kernel_rfl) rfl rfl rfl (csum) ?_; refine gv hF oM ?_; refine SmG.call hF rfl rfl (by kernel_rfl) rfl rfl rfl (BS _ hx) ?_; refine gv hF (cZ rfl Tryd.underlying53 (by kernel_rfl) rfl hbo) ?_; refine SmG.new hF rfl rfl rfl (aF rfl zm) ?_; refine SmG.store hF rfl rfl rfl rfl rfl (by simp only [go_sem, hr, hm1, hS, ac, ai, aG, hsl] <;> rfl) ?_; refine SmG.nil (aa (Sm.seq ?_)); have hrest : rest.length = 0 := by simpa using hc
  clear hc; have hfresh : ∀ (y : Blk) k, k < n0 -> look ((n0 + 1, y) :: h1) k = look h k := fun y k hk => by simp only [look]; rw [if_neg (by omega)]; exact hlow k hk
  have hm2 : ∀ (y : Blk), look ((n0 + 1, y) :: h1) m = some ⟨3, [[.d (.list 33 (objs.map Ob.row) false), S, Qv]]⟩ := fun y => by simp only [look]; rw [if_neg (by omega)]; exact hm1
  have hne1 : ¬ n0 + 1 = m := by omega
  simp only [rep, if_true]; by_cases cx : x.length <= 65536
  ·by_cases cf : aM objs (Sha.sum x) = none
   ·have hfz : cF objs sx.l = -1 := by unfold cF; rw [hsx, cf]
    refine dD hF rfl ?_; refine ik hF rfl 0 21 (by kernel_rfl) ?_; simp only [List.take_succ_cons, List.take_zero, List.take_nil, List.drop_succ_cons, List.drop_zero, Nat.reduceSub]; refine hv hF oM ?_; refine hv hF (aJ rfl rfl (by simp only [go_sem, hm1, hm2, hS, ac, hne1, hfz] <;> rfl)) ?_; refine hv hF (ah rfl rfl rfl (by exact te _ _ _ _ _ (by omega))) ?_; refine hv hF oM ?_; refine hv hF oM ?_; refine hv hF (bt rfl rfl) ?_; refine hv hF (ag rfl rfl (by simp only [go_sem, hm1, hm2, hS, ac, hne1, hfz] <;> rfl)) ?_; refine hv hF (ae rfl rfl (by simp only [go_sem, hm1, hm2, hS, ac, hne1, hfz] <;> rfl)) ?_; refine hv hF (ag rfl rfl (by simp only [go_sem, hm1, hm2, hS, ac, hne1, hfz] <;> rfl)) ?_; refine hv hF (ae rfl rfl (lV hRl hRt (by simp [look]))) ?_; refine au.c hF rfl rfl (by kernel_rfl) rfl rfl rfl (rU objs sx (by omega)) ?_; refine hv hF (ah rfl rfl rfl (by exact eu _ _ _ _ _ (by omega))) ?_; refine hv hF (aO rfl rfl rfl) ?_; refine hv hF oM ?_; refine hv hF oM ?_; refine hv hF (bt rfl rfl) ?_; refine hv hF (ag rfl rfl (by simp only [go_sem, hm1, hm2, hS, ac, hne1, hfz] <;> rfl)) ?_; refine hv hF (ae rfl rfl (by simp only [go_sem, hm1, hm2, hS, ac, hne1, hfz] <;> rfl)) ?_; refine hv hF (aJ rfl rfl (by simp only [go_sem, hm1, hm2, hS, ac, hne1, hfz] <;> rfl)) ?_; refine hv hF (ah rfl rfl rfl (by exact ss _ _ _ _ _ _ _)) ?_; refine hv hF (aO rfl rfl rfl) ?_; refine au.last ?_; simp only [List.nil_append, List.cons_append]; refine lO hF 21 rfl (by kernel_rfl) rfl ?_; refine tb hF rfl rfl rfl rfl rfl (by omega) (fun hc => hnone (hcn hrest fun hh => by simp at hc; omega) (by show n0 <= n0 + 1 + 1; omega) (hfresh _)) (fun hc => ?_); refine SmG.nil (aa ?_); refine SmA.nil (Nat.le_of_ble_eq_true rfl) ?_; refine aa ?_; refine dD hF rfl ?_; refine ik hF rfl 0 11 (by kernel_rfl) ?_; simp only [List.take_succ_cons, List.take_zero, List.take_nil, List.drop_succ_cons, List.drop_zero, Nat.reduceSub]; refine hv hF oM (hv hF oM ?_); refine hv hF (bt rfl rfl) ?_; refine hv hF (ag rfl rfl (by simp only [go_sem, hm1, hm2, hS, ac, hne1, hfz] <;> rfl)) ?_
    refine hv hF (ae rfl rfl (by simp only [go_sem, hm1, hm2, hS, ac, hne1, hfz] <;> rfl)) ?_; refine au.c hF rfl rfl (by kernel_rfl) rfl rfl rfl (EI objs) ?_; refine hv hF (ae rfl rfl (nL hRl (by simp [look]))) ?_; refine hv hF (bc rfl rfl (by simp only [go_sem, hm1, hm2, hS, ac, hne1, hfz] <;> rfl)) ?_; refine au.gives hF rfl rfl rfl (cq.append hF rM rfl rfl rfl (Or.inl rfl) (Or.inl rfl) (by simp; omega) (by simp; omega)) ?_; refine hv hF (bt rfl rfl) ?_; refine hv hF (ag rfl rfl (by simp only [go_sem, hm1, hm2, hS, ac, hne1, hfz] <;> rfl)) ?_; refine au.last ?_; simp only [List.nil_append, List.cons_append]; refine lO hF 11 rfl (by kernel_rfl) rfl ?_; refine SmG.store hF rfl rfl rfl rfl rfl (by simp only [go_sem, hm1, hm2, hS, ac, hne1, hfz] <;> rfl) ?_; refine SmG.nil (aa ?_); refine SmA.nil (Nat.le_of_ble_eq_true rfl) ?_; have hlen : objs.length < 256 := by simp at hc; omega
    have hsome : bw objs n b = some (objs ++ [⟨sx, x⟩]) := by
     rw [hA3]; unfold gF; rw [if_neg (by omega), if_pos ⟨cx, cf, hlen⟩, hsv]
    refine ⟨_, _, .inl rfl, V.le.refl _, by show n0 <= n0 + 1 + 1; omega, fun k hk hkm => ?_, ?_⟩
    ·rw [cg, if_neg hkm]; exact hfresh _ k hk
    ·rw [hsome]; refine ⟨rfl, ?_⟩; rw [cg, if_pos rfl, hm2]; simp [stB, hR]
   ·have hfz : ¬ cF objs sx.l < 0 := by
     unfold cF; rw [hsx]; cases hq : aM objs (Sha.sum x) with
     | none => exact absurd hq cf
     | some i => simp
    refine dD hF rfl ?_; refine ik hF rfl 0 21 (by kernel_rfl) ?_; simp only [List.take_succ_cons, List.take_zero, List.take_nil, List.drop_succ_cons, List.drop_zero, Nat.reduceSub]; refine hv hF oM ?_; refine hv hF (aJ rfl rfl (by simp only [go_sem, hm1, hm2, hS, ac, hne1] <;> rfl)) ?_; refine hv hF (ah rfl rfl rfl (by exact te _ _ _ _ _ (by omega))) ?_; refine hv hF oM ?_; refine hv hF oM ?_; refine hv hF (bt rfl rfl) ?_; refine hv hF (ag rfl rfl (by simp only [go_sem, hm1, hm2, hS, ac, hne1] <;> rfl)) ?_; refine hv hF (ae rfl rfl (by simp only [go_sem, hm1, hm2, hS, ac, hne1] <;> rfl)) ?_; refine hv hF (ag rfl rfl (by simp only [go_sem, hm1, hm2, hS, ac, hne1] <;> rfl)) ?_; refine hv hF (ae rfl rfl (lV hRl hRt (by simp [look]))) ?_; refine au.c hF rfl rfl (by kernel_rfl) rfl rfl rfl (rU objs sx (by omega)) ?_; refine hv hF (ah rfl rfl rfl (by exact eR _ _ _ _ _ (by omega))) ?_; refine hv hF (aO rfl rfl rfl) ?_; refine hv hF oM ?_; refine hp hF ?_; refine hp hF ?_; refine hp hF ?_; refine hp hF ?_; refine hp hF ?_; refine hp hF ?_; refine hv hF (aU rfl rfl rfl) ?_; refine au.last ?_; simp only [List.nil_append, List.cons_append]; refine lO hF 21 rfl (by kernel_rfl) rfl ?_; refine qL hF rfl rfl rfl rfl rfl (by omega) ?_; exact hnone (hcn hrest fun hh => cf hh.2.1) (by show n0 <= n0 + 1 + 1; omega) (hfresh _)
  ·refine dD hF rfl ?_; refine ik hF rfl 0 21 (by kernel_rfl) ?_; simp only [List.take_succ_cons, List.take_zero, List.take_nil, List.drop_succ_cons, List.drop_zero, Nat.reduceSub]; refine hv hF oM ?_; refine hv hF (aJ rfl rfl (by simp only [go_sem, hm1, hm2, hS, ac, hne1] <;> rfl)) ?_; refine hv hF (ah rfl rfl rfl (by exact wX _ _ _ _ _ (by omega))) ?_; refine hv hF oM ?_; refine hp hF ?_; refine hp hF ?_; refine hp hF ?_; refine hp hF ?_; refine hp hF ?_; refine hp hF ?_; refine hp hF ?_; refine hp hF ?_; refine hv hF (aU rfl rfl rfl) ?_; refine hv hF oM ?_; refine hp hF ?_; refine hp hF ?_; refine hp hF ?_; refine hp hF ?_; refine hp hF ?_; refine hp hF ?_; refine hv hF (aU rfl rfl rfl) ?_; refine au.last ?_; simp only [List.nil_append, List.cons_append]; refine lO hF 21 rfl (by kernel_rfl) rfl ?_; refine qL hF rfl rfl rfl rfl rfl (by omega) ?_; exact hnone (hcn hrest fun hh => cx hh.1) (by show n0 <= n0 + 1 + 1; omega) (hfresh _)
 by_cases k68 : kind.toNat = 68
 ·rw [show qX 56 57 80 68 (kind.toNat : Int) n0 = .clo 57 [.r n0 0] [] from by unfold qX; rw [if_neg (by omega), if_pos (by omega)]]; refine gv hF oA (SmG.nil (aa (Sm.seq ?_))); refine ab hF rfl ?_; refine gv hF oM ?_; refine xm hF rfl rfl rfl rfl rfl Tryd.underlying106 ?_; refine vD hF rfl rfl rfl rfl rfl (by omega) ?_; refine SmG.nil (aa (Sm.seq ?_)); refine ab hF rfl ?_; refine gv hF oM ?_; refine uD hF (xs := []) rfl rfl (by kernel_rfl) rfl rfl rfl rfl (by omega) (Mf r2 n0 _ _ (by simp [look])) ?_ ?_
  rotate_left
  ·rintro ch h1 n1 ⟨rfl, ⟨_, _, e, _⟩ | ⟨hle, e, rfl⟩⟩ <;> cases e
   exact hnoneR _ (by rw [hA2]; unfold gl; rw [if_neg k80, if_pos k68, if_pos (by omega)])
  rintro v h1 n1 ⟨rfl, ⟨_, gle, e, rfl⟩ | ⟨_, e, _⟩⟩ <;> cases e
  have gle : 32 <= r2.length := by omega
  simp only [rep, if_true, show (32 : Int).toNat = 32 from rfl]; have hA3 : bw objs n b = fP objs (r2.take 32) (r2.drop 32).length := by
   rw [hA2]; unfold gl; rw [if_neg k80, if_pos k68, if_neg (by omega)]
  have hx : (r2.take 32).length = 32 := by simp; omega
  generalize r2.take 32 = x at hA3 hx; generalize r2.drop 32 = rest at hA3; have hm1 : look ((n0, rdB rest) :: h) m = some ⟨3, [[.d (.list 33 (objs.map Ob.row) false), S, Qv]]⟩ := by simp only [look]; rw [if_neg hmn]; exact hl
  refine gv hF oA (SmG.nil (aa (Sm.seq ?_))); refine ab hF rfl ?_; refine gv hF oM ?_; refine gv hF (bt rfl rfl) ?_; refine gv hF (ag rfl rfl (by simp only [go_sem, hl, hmn, hS, ac, rdB] <;> rfl)) ?_; refine gv hF (ae rfl rfl (by simp only [go_sem, hl, hmn, hS, ac, rdB] <;> rfl)) ?_; refine gv hF (aJ rfl rfl (by simp only [go_sem, hl, hmn, hS, ac, rdB] <;> rfl)) ?_; refine gv hF (ah rfl rfl rfl (by exact my _ _ _ _ _ _ _)) ?_; refine tb hF rfl rfl rfl rfl rfl (by omega) (fun hc => hnoneR _ (by rw [hA3]; unfold fP; rw [if_pos (by intro e; rw [e] at hc; simp at hc)])) (fun hc => ?_); refine SmG.nil (aa (Sm.seq (Sm.seq ?_))); refine ab hF rfl ?_; refine gv hF oM ?_; refine gv hF (ah rfl rfl rfl (by exact dR _ _ _ _ _ (by omega))) ?_; refine SmG.nil (aa ?_); have hrest : rest.length = 0 := by simpa using hc
  clear hc; refine aZ hF rfl ?_; refine Sm.seq ?_; refine eW hF (by kernel_rfl) rfl 9 (by kernel_rfl) (by kernel_rfl) ?_; simp only [List.take_succ_cons, List.take_zero, List.take_nil]; refine hv hF oM ?_; refine hv hF (bt rfl rfl) ?_; refine hv hF (ag rfl rfl (by simp only [go_sem, hl, hmn, hS, ac, rdB] <;> rfl)) ?_; refine hv hF (ae rfl rfl (by simp only [go_sem, hl, hmn, hS, ac, rdB] <;> rfl)) ?_; refine hv hF oM ?_; refine au.gives hF rfl rfl rfl (rC hF rfl rfl Tryd.underlying42 hx (by decide)) ?_; refine hv hF (ae rfl rfl (by simp only [go_sem, hl, hmn, hS, ac, rdB] <;> rfl)) ?_; refine au.c hF rfl rfl (by kernel_rfl) rfl rfl rfl (rU objs ⟨x, hx⟩ (by omega)) ?_; refine hv hF oA ?_; refine au.last ⟨rfl, ?_⟩; simp only [List.drop_succ_cons, List.drop_zero, List.drop_nil, List.nil_append, List.cons_append]; refine SmG.nil (aa (Sm.seq ?_)); refine ab hF rfl ?_; refine gv hF oM ?_; refine gv hF (ah rfl rfl rfl (by exact sq _ _ _ _ _ _ _)) ?_; cases hq : aM objs x with
  | none =>
   have hfz : cF objs x = -1 := by unfold cF; rw [hq]
   rw [hfz]; refine qL hF rfl rfl rfl rfl rfl (by omega) ?_; exact hnoneR _ (by rw [hA3]; unfold fP; rw [if_neg (by omega), hq])
  | some i =>
   have hfz : cF objs x = (i : Int) := by unfold cF; rw [hq]
   have hi : i < objs.length := by
    unfold aM at hq; rw [List.findIdx?_eq_some_iff_getElem] at hq; exact hq.1
   rw [hfz]; refine vD hF rfl rfl rfl rfl rfl (by omega) ?_; refine SmG.nil (aa (Sm.seq ?_)); refine ab hF rfl ?_; refine gv hF oM (gv hF oM ?_); refine gv hF (bt rfl rfl) ?_; refine gv hF (ag rfl rfl (by simp only [go_sem, hl, hmn, hS, ac, rdB] <;> rfl)) ?_; refine gv hF (ae rfl rfl (by simp only [go_sem, hl, hmn, hS, ac, rdB] <;> rfl)) ?_; refine gv hF oM ?_; refine SmG.call hF rfl rfl (by kernel_rfl) rfl rfl rfl (Gf objs i (by omega) hi) ?_; refine gv hF (bt rfl rfl) ?_; refine gv hF (ag rfl rfl (by simp only [go_sem, hl, hmn, hS, ac, rdB] <;> rfl)) ?_; refine SmG.store hF rfl rfl rfl rfl rfl (by simp only [go_sem, hl, hmn, hS, ac, rdB] <;> rfl) ?_; refine SmG.nil (aa (Sm.ret ?_)); simp only [ba, bR]; have hsome : bw objs n b = some (objs.eraseIdx i) := by
    rw [hA3]; unfold fP; rw [if_neg (by omega), hq]
   refine ⟨_, _, .inl rfl, V.le.refl _, Nat.le_succ _, fun k hk hkm => ?_, ?_⟩
   ·rw [cg, if_neg hkm]; simp only [look]; rw [if_neg (by omega)]
   ·rw [hsome]; refine ⟨rfl, ?_⟩; rw [cg, if_pos rfl, hm1]; rfl
 ·rw [show qX 56 57 80 68 (kind.toNat : Int) n0 = .d (.v .nilFunc) from by unfold qX; rw [if_neg (by omega), if_neg (by omega)]]; refine gv hF oA (SmG.nil (aa (Sm.seq ?_))); refine ab hF rfl ?_; refine gv hF oM ?_; refine gv hF (ah rfl rfl rfl (show _ = some (Value.bool false) from by kernel_rfl)) ?_; refine qL hF rfl rfl rfl rfl rfl (by omega) ?_; exact hnoneR _ (by rw [hA2]; unfold gl; rw [if_neg k80, if_neg k68])
end
section
theorem Ef {P : Program} {G : zGz} {N : Nat} {F : Fr} {ops rest : zOz} {o : Oper} {Q : zQz} {env : zEz} {h : zHz} {nx : Nat} (hF : Env F P G N) {x : Operand} {T xt : TypeId} {t : Tmp} {fs : Array Field} (ho : o.op = .typeAssert x xt T true) (hd : o.dst = some t) (ht : Nat.blt t N = true) (hg : aC ops env o.guard = some true)
  (hx : evB G env x = some (.d (.v (.iface T (.agg #[]))))) (hu : P.underlying T = some (.struct fs)) (k : SmG F N ops rest Q ⟨(t, .d (.tup [.agg 0 [], .v (.bool true)])) :: env, h, nx⟩) : SmG F N ops (o :: rest) Q ⟨env, h, nx⟩ := by
 intro hsm μ C a w hs; obtain ⟨rfl, rfl, hG⟩ := hF; have ht' : t < F.N := by simpa [Nat.blt_eq] using ht
 have hev : ∀ x v, evB G env x = some v -> ax μ C v (a.eval x) := fun x v h => bW hs hG (by rw [aT] at h; exact h)
 refine cb (fun _ => by rw [ho]; simp) fun K hK => ?_
 rw [bI hs (aN hg) hsm, if_pos rfl]; unfold Oper.wp; have hv : a.eval x = .iface T (.agg #[]) := by
  have := hev x _ hx; generalize a.eval x = u at this ⊢; cases this with | v _ => rfl
 have : (execOp a.eval o).run F.P w = .ok (.value (.tuple #[.agg #[], .bool true])) w := by
  simp only [execOp, ho, hv]; show (do let v <- Instr.typeAssert (.iface T (.agg #[])) xt T true; pure (.value v) : Sem Next).run F.P w = _; unfold Instr.typeAssert; simp only [Sem.run_bind, run_underlying hu, Result.andThen_ok]; simp
 rw [this, Oper.upon_value, hd]; exact hK _ _ (k (bJ hsm ht') μ C _ w (hs.put ht' (Rp.tup _ _ (.ocons _ _ _ _ (.agg 0 [] [] rfl .vnil) (.ocons _ _ _ _ (.v _) .onil)))))
theorem Fw : ∀ C w, fK HG C -> bG C w -> CallsDIn Fence.wide 0 Tryd.prog 37 #[] .returning w fun e u'' w' => (∃ v, e = .returned v) /\ u'' = .returning /\ More w C w' C := by
 refine mj (x := .nilIface) Tryd.func37 rfl Tryd.ntmps37 rfl rfl rfl rfl rfl rfl (by decide) rfl (.inr ⟨rfl, rfl, fun c cs h => by simp [recoverD, h]⟩) fun F hF h0 => ?_
 refine Sm.seq ?_; refine ab hF rfl ?_; refine gv hF oM ?_; refine SmG.v (x := .d (.v (.bool false))) hF rfl rfl rfl (ah rfl rfl rfl (show _ = some (Value.bool false) from by kernel_rfl)) ?_; refine SmG.nil (aa ?_); refine aS hF rfl ?_; refine Sm.skip ?_; exact .inl rfl
theorem Fv : ∀ C w, fK HG C -> bG C w -> CallsDIn Fence.wide 0 Tryd.prog 37 #[] (.panicking ii) w fun e u'' w' => (∃ v, e = .returned v) /\ u'' = .panicking [{ v := DT, recovered := true }] /\ More w C w' C := by
 refine mj (x := DT) Tryd.func37 rfl Tryd.ntmps37 rfl rfl rfl rfl rfl rfl (by decide) rfl (.inl fun c cs h => by simp [recoverD, h, ii]) fun F hF h0 => ?_
 refine Sm.seq ?_; refine ab hF rfl ?_; refine gv hF oM ?_; refine SmG.v (x := .d (.v (.bool true))) hF rfl rfl rfl (ah rfl rfl rfl (show _ = some (Value.bool true) from by kernel_rfl)) ?_; refine SmG.nil (aa ?_); refine aZ hF rfl ?_; refine Sm.seq ?_; refine ab hF rfl ?_; refine gv hF oM ?_; refine Ef hF rfl rfl rfl rfl rfl Tryd.underlying75 ?_; refine gv hF oM ?_; refine gv hF (by exact pj rfl rfl rfl) ?_; refine gv hF (by exact pj rfl rfl rfl) ?_; refine SmG.new hF rfl rfl rfl (aF rfl MC) ?_; refine SmG.store hF rfl rfl rfl rfl rfl (by simp only [go_sem] <;> rfl) ?_; refine gv hF oA (SmG.nil (aa (Sm.seq ?_))); refine ab hF rfl ?_; refine gv hF oM ?_; refine gv hF (eM rfl rfl (by exact gj _)) ?_; refine SmG.nil (aa ?_); refine aS hF rfl ?_; refine Sm.skip ?_; exact .inl rfl
def da (objs : List Ob) (safe : List zBz) : List zBz -> Sto
 | [] => ⟨objs, safe, []⟩
 | b :: r => match bw objs safe.length b with
  | none => ⟨objs, safe, []⟩
  | some o => da o (safe ++ [b]) r
theorem CL {objs o : List Ob} {n : Nat} {b : zBz} (h : bw objs n b = some o) (hl : objs.length <= 256) : o.length <= 256 := by
 have hP : ∀ x r, gF objs x r = some o -> o.length <= 256 := fun x r h => by
  unfold gF at h; split at h
  ·cases h
  ·split at h
   ·rename_i hc; cases h; simp; omega
   ·cases h
 have hD : ∀ x r, fP objs x r = some o -> o.length <= 256 := fun x r h => by
  unfold fP at h; split at h
  ·cases h
  ·split at h
   ·cases h
   ·cases h; have := List.length_eraseIdx_le objs ‹_›; omega
 unfold bw at h; split at h
 ·cases h
 split at h
 ·cases h
 generalize b.take (b.length - 32) = B at h; cases B with
 | nil => cases h
 | cons k r =>
  rw [eD] at h; split at h
  ·cases h
  split at h
  ·cases h
  unfold gl at h; split at h
  ·split at h
   ·cases h
   ·exact hP _ _ h
  ·split at h
   ·split at h
    ·cases h
    ·exact hD _ _ h
   ·cases h
theorem KL (rs : List zBz) (hrs : rs.length <= 1000000) (hb : ∀ b ∈ rs, b.length <= 1000000) : aj Tryd.prog HG 15 [.list 1 (rs.map av) false] (.agg 3 (Sto.row (da [] [] rs))) := by
 refine wj (st1 := ⟨[(2, .ref 0 0 0), (0, .d (.list 1 (rs.map av) false))], [(0, ⟨3, [[.d (.list 0 [] true), .d (.list 0 [] true), .d (.list 0 [] true)]]⟩)], 1⟩) (ch0 := ii) Tryd.func15 rfl Tryd.ntmps15 (by simp) rfl rfl rfl (by kernel_rfl) (fun F hF h0 => ?_) (fun F hF h0 => ?_) Fw (fun C w hG hk => (Fv C w hG hk).mono fun e u' w' ⟨h1, h2, h3⟩ => ⟨h1, by rw [h2]; rfl, h3⟩)
 ·simp only [List.zipIdx_cons, List.zipIdx_nil, List.map_cons, List.map_nil, Nat.zero_add, Nat.reduceAdd]; refine ab hF rfl ?_; refine SmG.new hF rfl rfl rfl (aF rfl mz) ?_; refine SmG.nil ?_; exact ⟨rfl, rfl⟩
 refine Sm.cloQ ?_; refine Sm.seq (Sm.seq ?_); refine ab hF rfl ?_; refine gv hF oM ?_; refine gv hF (aJ rfl rfl (by simp only [go_sem, stB, ac] <;> rfl)) ?_; refine gv hF oM (SmG.nil (aa (Sm.block ?_))); refine pS 0 0 1 1 rfl rfl rfl ?_; refine Sm.to (CC (env' := [(0, .d (.list 1 (rs.map av) false)), (2, .ref 0 0 0), (5, .d (.list 1 (rs.map av) false)), (6, .d (.v (.int .i64 rs.length))), (7, .d (.v (.int .i64 0)))]) (h' := [(1, dB 1 []), (0, stB [] (.sref 1 0 0) (.d (.list 0 [] true)))]) (nx' := 2) ⟨⟨_, rfl, V.le.refl _⟩, ⟨_, rfl, V.le.refl _⟩, ⟨_, rfl, V.le.refl _⟩, ⟨_, rfl, V.le.refl _⟩, ⟨_, rfl, V.le.refl _⟩, trivial⟩ ⟨⟨_, rfl, fJ.refl _⟩, ⟨_, rfl, fJ.row (.cons (V.le.d (ck 0 33 true)) (.cons (V.le.refl _) (.cons (V.le.refl _) .nil)))⟩, trivial⟩ (Nat.le_refl _)) ?_; refine Sm.loop (ι := {s : Sto // s.queue = [] /\ s.objects.length <= 256 /\ s.safe.length <= rs.length /\ da [] [] rs = da s.objects s.safe (rs.drop s.safe.length)}) (fun s => ⟨[(0, .d (.list 1 (rs.map av) false)), (2, .ref 0 0 0), (5, .d (.list 1 (rs.map av) false)), (6, .d (.v (.int .i64 rs.length))), (7, .d (.v (.int .i64 s.1.safe.length)))], [(1, dB 1 (s.1.safe.map av)), (0, stB s.1.objects (.sref 1 0 s.1.safe.length) (.d (.list 0 [] true)))], 2⟩) (fun s => rs.length - s.1.safe.length) (⟨⟨[], [], []⟩, rfl, by decide, by simp, by simp⟩) ?_ ?_
 ·exact aK ⟨rfl, rfl, rfl, rfl, rfl, trivial⟩ ⟨rfl, rfl, trivial⟩ (Nat.le_refl _)
 rintro ⟨⟨objs, safe, queue⟩, hq, ho, hs, heq⟩; simp only at hq ho hs heq ⊢; have hfrz : ∀ (nx : Nat), St.to F ⟨[(2, .ref 0 0 0)], [(1, dB 1 (safe.map av)), (0, stB objs (.sref 1 0 safe.length) (.d (.list 0 [] true)))], nx⟩ ⟨[(2, .ref 0 0 0)], [(0, ⟨3, [[.d (.list 33 (objs.map Ob.row) false), .d (.list 1 (safe.map av) false), .d (.list 0 [] true)]]⟩)], nx⟩ := fun nx => by
  have h := fD (F := F) (st := ⟨[(2, .ref 0 0 0)], [(1, dB 1 (safe.map av)), (0, stB objs (.sref 1 0 safe.length) (.d (.list 0 [] true)))], nx⟩) (l := 1) (safe.map av) rfl rfl; simpa [cR, bf, bL, hO, dt, cA, stB, dB] using h
 have hle : ∀ o' s' r, da [] [] rs = ⟨o', s', []⟩ -> r = D.agg 3 [.list 33 (o'.map Ob.row) false, .list 1 (s'.map av) false, .list 0 [] true] -> r.le (.agg 3 (Sto.row (da [] [] rs))) := fun o' s' r h1 h2 => by
  rw [h1, h2]; exact fW ⟨D.le.refl _, D.le.refl _, ck 0 1 true, trivial⟩
 by_cases hlt : safe.length < rs.length
 ·obtain ⟨b, hbi⟩ : ∃ b, rs[safe.length]? = some b := ⟨rs[safe.length], by simp⟩
  have hbl : b.length <= 1000000 := hb b (List.mem_of_getElem? hbi); have hdr : rs.drop safe.length = b :: rs.drop (safe.length + 1) := by
   rw [List.drop_eq_getElem_cons hlt]
   congr 1
   rw [List.getElem?_eq_getElem hlt] at hbi; exact Option.some.inj hbi
  refine Sm.seq ?_; refine ab hF rfl ?_; refine gv hF (ah rfl rfl rfl (by exact eu _ _ _ _ _ (by omega))) ?_; refine SmG.nil (aa (Sm.seq ?_)); refine aZ hF rfl ?_; refine Sm.skip ?_; refine aa (Sm.seq (Sm.block (Sm.seq ?_))); refine ab hF rfl ?_; refine gv hF (ak rfl rfl rfl (by simp only [go_sem, hbi, av, aB] <;> rfl)) ?_; refine gv hF (ae rfl rfl (by simp only [go_sem, hbi, av, aB] <;> rfl)) ?_; refine gv hF oA (SmG.nil (aa (Sm.seq ?_))); refine ab hF rfl ?_; refine gv hF oM ?_; refine dL hF (xs := [_, _]) rfl rfl (by kernel_rfl) rfl rfl rfl (by omega) (IP objs safe.length b 0 (.sref 1 0 safe.length) (.d (.list 0 [] true)) _ 2 (by decide) rfl (by simp [hU, Tryd.underlying25]) hbl (by omega)) ?_ ?_
  rotate_left
  ·rintro ch h1 n1 ⟨hn1, hlo, hm⟩; cases happ : bw objs safe.length b with
   | some o => rw [happ] at hm; cases hm.1
   | none =>
    rw [happ] at hm; obtain ⟨e, hl0⟩ := hm; cases e; refine ⟨_, aR (cV (st' := ⟨[(2, .ref 0 0 0)], [(1, dB 1 (safe.map av)), (0, stB objs (.sref 1 0 safe.length) (.d (.list 0 [] true)))], n1⟩) (aK ⟨rfl, trivial⟩ ⟨hlo 1 (by decide) (by decide), hl0, trivial⟩ (Nat.le_refl _))) (hfrz n1), rfl, _, rfl, hle objs safe _ ?_ rfl⟩; rw [heq, hdr]; unfold da; rw [happ]
  ·rintro v h1 n1 ⟨hn1, hlo, hm⟩; cases happ : bw objs safe.length b with
   | none => rw [happ] at hm; cases hm.1
   | some o =>
    rw [happ] at hm; obtain ⟨e, hl0⟩ := hm; cases e; have ho2 := CL happ ho; refine wl (aR (cV (st' := ⟨[(0, .d (.list 1 (rs.map av) false)), (2, .ref 0 0 0), (4, .d (.list 1 (b.map ai) false)), (5, .d (.list 1 (rs.map av) false)), (6, .d (.v (.int .i64 rs.length))), (7, .d (.v (.int .i64 safe.length)))], [(1, dB 1 (safe.map av)), (0, ⟨3, [[.d (.list 33 (o.map Ob.row) false), .sref 1 0 safe.length, .d (.list 0 [] true)]]⟩)], n1⟩) (aK ⟨rfl, rfl, rfl, rfl, rfl, rfl, trivial⟩ ⟨hlo 1 (by decide) (by decide), hl0, trivial⟩ (Nat.le_refl _))) (mR 2 rfl (by (repeat' first | exact pF _ | exact nh _ _ | exact trivial | refine nM ?_ (by decide) | refine lX ?_ (vA _ _ _) | refine pG ?_ ?_ | refine ⟨rfl, ?_⟩)) rfl (by omega))) rfl ?_; refine SmG.nil (aa ?_); refine ab hF rfl ?_; refine gv hF (ag rfl rfl (by simp only [go_sem, stB, ac] <;> rfl)) ?_; refine gv hF (ae rfl rfl (by simp only [go_sem, stB, ac] <;> rfl)) ?_; refine gv hF oM ?_; refine gv hF (bc rfl rfl (by simp only [go_sem, stB, ac] <;> rfl)) ?_; refine jG hF MF rfl rfl rfl rfl rfl rfl rfl (by (simp; done)) (Or.inl rfl) ?_ ?_ ?_; rotate_left; rotate_left; simp only [dn, Pk.v, V.free, rep, dt, cA, nH, lw, ov, cH, List.map_cons, List.map_nil, bne_self_eq_false, Nat.reduceAdd, Nat.reduceBNe, Nat.reduceBEq, Nat.reduceEqDiff, reduceIte, Bool.false_eq_true]
    ·have hrow : (safe.map av ++ [[D.list 1 (b.map ai) false]]) = (safe ++ [b]).map av := by simp [av, aB]
     rw [hrow]; refine gv hF (ag rfl rfl (by simp only [go_sem, stB, ac] <;> rfl)) ?_; refine SmG.store hF rfl rfl rfl rfl rfl (by simp only [go_sem, stB, ac] <;> rfl) ?_; refine SmG.nil (aI (aa ?_)); refine ab hF rfl ?_; refine gv hF (ah rfl rfl rfl (by exact eN _ _ _ _ _ (aY _ (by omega)))) ?_; refine gv hF oM (SmG.nil (aa ?_)); have he : (safe.length : Int) + 1 = ((safe ++ [b]).length : Int) := by simp
     have hl2 : ((safe ++ [b]).map av).length = (safe ++ [b]).length := by simp
     rw [he, hl2]; refine ⟨⟨⟨o, safe ++ [b], []⟩, rfl, ho2, by simp; omega, ?_⟩, by simp; omega, aK ⟨rfl, rfl, rfl, rfl, rfl, trivial⟩ ⟨rfl, rfl, trivial⟩ (Nat.le_refl _)⟩; rw [heq, hdr, da, happ]; simp
    ·simp; omega
    ·simp; omega
 ·refine Sm.seq ?_; refine ab hF rfl ?_; refine gv hF (ah rfl rfl rfl (by exact eR _ _ _ _ _ (by omega))) ?_; refine SmG.nil (aa (Sm.seq ?_)); refine aS hF rfl ?_; refine Sm.exit ?_; simp only [ba, bR, reduceIte, reduceCtorEq]; refine Sm.to (aR (cV (st' := ⟨[(2, .ref 0 0 0)], [(1, dB 1 (safe.map av)), (0, stB objs (.sref 1 0 safe.length) (.d (.list 0 [] true)))], 2⟩) (aK ⟨rfl, trivial⟩ ⟨rfl, rfl, trivial⟩ (Nat.le_refl _))) (hfrz 2)) ?_; refine Sm.seq ?_; refine ab hF rfl ?_; refine gv hF (ae rfl rfl (by simp only [go_sem, ac] <;> rfl)) ?_; refine SmG.store hF rfl rfl rfl rfl rfl (by simp only [go_sem, ac] <;> rfl) ?_; refine SmG.nil (aa (Sm.ret ?_)); refine ⟨_, kZ, _, rfl, hle objs safe _ ?_ rfl⟩; have : safe.length = rs.length := by omega
  rw [heq, this, List.drop_length]; rfl
end
section
section
variable {F : Fr} {env env' : zEz} {h h' : zHz} {nx nx' : Nat}
theorem Gm (ρ : Nat -> Nat) (hlow : ∀ l, l < F.n0 -> ρ l = l) (hn0 : F.n0 <= nx') (hE : ∀ t y, look env' t = some y -> V.lt nx' y = true /\ y.noGh = true /\ look env t = some (y.ren ρ))
  (hH : ∀ m k', look h' m = some k' -> m < nx' /\ look h (ρ m) = some (k'.ren ρ) /\ (∀ r ∈ k'.rows, ∀ y ∈ r, V.lt nx' y = true /\ y.noGh = true))
  (hinj : ∀ m m', (look h' m).isSome = true -> (look h' m').isSome = true -> ρ m = ρ m' -> m = m') (hdom : (∀ ds h μ C w, F.G ds h μ C w) \/ ∀ m, (look h' m).isSome = true -> (look h m).isSome = true \/ nx <= m) : St.to F ⟨env, h, nx⟩ ⟨env', h', nx'⟩ := by
 intro μ C a w hs; have hd : ∀ l p, l < nx' -> μ (ρ l) = some p -> (fun m => if m < nx' then μ (ρ m) else none) l = some p := fun l p hl hp => by simp only [if_pos hl]; exact hp
 refine ⟨fun m => if m < nx' then μ (ρ m) else none, C, hs.size, hs.defers, hs.below, hs.sub, hs.new, hs.known, fun t y hy => ?_, fun m k' hk' => ?_, fun m m' p p' g1 g2 q1 q2 c1 c2 e => ?_, fun m hm => ?_, hdom.elim (fun g => g _ _ _ _ _) fun hdom => F.stab hs.gh ⟨rfl, rfl, rfl, Nat.le_refl _, fun l p hl hp => ?_, fun m hm => ?_, fun _ _ _ => rfl, fun b ⟨m, k', q, g1, g2, g3, g4⟩ => ?_, fun _ _ _ h => h, fun _ _ _ h => .inl h, hs.known⟩⟩
 ·obtain ⟨h1, h2, h3⟩ := hE t y hy; exact pV hd h1 h2 (hs.env t _ h3)
 ·obtain ⟨h1, h2, h3⟩ := hH m k' hk'; obtain ⟨p, hp, hb⟩ := hs.heap _ _ h2; refine ⟨p, by simp only [if_pos h1]; exact hp, hb.sz, by have := hb.len; simpa [Blk.ren] using this, hb.max, fun r hr => ?_, fun hc => ?_⟩
  ·have := hb.row (r.map (V.ren ρ)) (by simp only [Blk.ren]; exact List.mem_map.2 ⟨r, hr, rfl⟩); simpa [Blk.ren] using this
  ·obtain ⟨c1, c2, cur, T, c3, c4, c5⟩ := hb.cells hc; rw [rX] at c3; refine ⟨c1, c2, cur, T, c3, c4, fun i r hr j x hx => ?_⟩; obtain ⟨u, a1, a2, a3⟩ := c5 i (r.map (V.ren ρ)) (by simp [Blk.ren, hr]) j (x.ren ρ) (by simp [hx]); obtain ⟨b1, b2⟩ := h3 r (List.mem_of_getElem? hr) x (List.mem_of_getElem? hx); exact ⟨u, a1, a2, pV hd b1 b2 a3⟩
 ·obtain ⟨k1, e1⟩ := Option.isSome_iff_exists.1 g1; obtain ⟨k2, e2⟩ := Option.isSome_iff_exists.1 g2; obtain ⟨a1, a2, _⟩ := hH m k1 e1; obtain ⟨b1, b2, _⟩ := hH m' k2 e2; simp only [if_pos a1] at q1; simp only [if_pos b1] at q2; exact hinj m m' g1 g2 (hs.inj _ _ p p' (by rw [a2]; rfl) (by rw [b2]; rfl) q1 q2 c1 c2 e)
 ·have : ¬ m < nx' := by have hm : nx' <= m := hm; omega
  simp only [if_neg this]
 ·simp only [if_pos (show l < nx' by omega), hlow l hl]; exact hp
 ·exact (hdom m hm).imp id fun h => hs.nx m h
 ·obtain ⟨a1, a2, _⟩ := hH m k' g1; simp only [if_pos a1] at g2; exact .inl ⟨ρ m, _, q, a2, g2, g3, g4⟩
end
section
variable {P : Program} {G : zGz} {N : Nat} {F : Fr} {ops rest : zOz} {o : Oper} {Q : zQz} {env : zEz} {h : zHz} {nx : Nat}
def yV (r : D) : Prop := ∀ C C' v, Rep C r v -> Rep C' r v
theorem Kx (x : Value) : yV (.v x) := fun _ _ _ h => by cases h; exact .v x
theorem Ct {C C' : aw} : ∀ {xs : zLz} {vs : zLz}, Rp C (.vals (xs.map D.v) vs) -> Rp C' (.vals (xs.map D.v) vs)
 | [], _, h => by cases h; exact .vnil
 | x :: xs, _, h => by
  cases h with
  | vcons _ v _ vs h1 h2 h3 => cases h2; exact .vcons _ _ _ _ h1 (.v _) (Ct h3)
theorem GO (n : Nat) (xs : zLz) : yV (.agg n (xs.map D.v)) := fun _ _ _ h => by
 cases h with
 | agg _ _ _ h1 h2 => exact .agg _ _ _ h1 (Ct h2)
theorem zO (s : zBz) : yV (qZ s) := by
 have : qZ s = .agg 32 ((s.map fun b => Value.int .u8 b.toNat).map D.v) := by simp [qZ, ay, aG, Function.comp_def]
 rw [this]; exact GO _ _
theorem nr (hF : Env F P G N) {f : FuncId} {xs : List Operand} {ts : Array TypeId} {t : Tmp} {l sz : Nat} (rows : zRz) {ds : List D} {r : D} (ho : o.op = .call ⟨.value (.func f), xs.toArray, ts⟩) (hd : o.dst = some t) (hb : cD P f = true) (ht : Nat.blt t N = true) (hg : aC ops env o.guard = some true)
  (hk : af h l = some (dB sz rows)) (hargs : bE (evB G (cR l sz rows env)) xs = some ds) (hc : aj P G f ds r) (hr : yV r) (k : SmG F N ops rest Q ⟨(t, .d r) :: env, h, nx⟩) : SmG F N ops (o :: rest) Q ⟨env, h, nx⟩ := by
 intro hsm μ C a w hs; have hto := nv (F := F) (st := ⟨env, h, nx⟩) (l := l) rows (by rw [aL] at hk; exact hk) rfl; obtain ⟨μ2, C2, hs2⟩ := hto μ C a w hs; obtain ⟨rfl, rfl, hG⟩ := hF; have ht' : t < F.N := by simpa [Nat.blt_eq] using ht
 have hev : ∀ x v, evB G (cR l sz rows env) x = some v -> ax μ2 C2 v (a.eval x) := fun x v h => bW hs2 hG (by rw [aT] at h; exact h)
 refine cb (fun _ => by rw [ho]; simp) fun K hK => ?_
 rw [bI hs (aN hg) hsm, if_pos rfl]; unfold Oper.wp; have hex : (execOp a.eval o).run F.P w = .ok (.enter f (xs.map a.eval).toArray) w := by
  have e : execOp a.eval o = callFunc f (#[] ++ xs.toArray.map a.eval ++ #[]) := by
   simp only [execOp, ho]; rfl
  rw [e, fX hb]; simp
 rw [hex, Oper.upon_enter]; refine (hc C2 w _ (hG.mono hs2.sub) hs2.known (kP hev hargs)).mono ?_; rintro e w' ⟨v, C', rfl, hm, hv⟩; show K (a.put o.dst v) w'; rw [hd]; exact hK _ _ (k (bJ hsm ht') μ C _ w' ((hs.more (.of_below hs.known hm.below)).put ht' (hr _ _ _ hv)))
end
end
section
def bF (n : Nat) : zBz := [UInt8.ofNat (n / 16777216), UInt8.ofNat (n / 65536), UInt8.ofNat (n / 256), UInt8.ofNat n]
theorem jR (P : Program) (t : TypeId) (x y : Operand) (n c k : Nat) (k2 : IntKind) (hk : (2 : Int) ^ (min k IntKind.i64.bits) = (c : Int)) (hc : 0 < c) : aD P (do eqGuard .shr t x y (.int .i64 n) (.int k2 k); binOp .shr t (.int .i64 n) (.int k2 k)) = some (.int .i64 ((n / c : Nat) : Int)) := by
 rw [vO P t x y .i64 n k k2 (by omega)]; have : min ((k : Int).toNat) IntKind.i64.bits = min k IntKind.i64.bits := by simp
 rw [this, hk, Int.fdiv_eq_ediv_of_nonneg _ (by omega)]; norm_cast
theorem sd (b : zBz) (n : Nat) : b.map ai ++ [[D.v (.int .u8 ((UInt8.ofNat (n / 16777216)).toNat : Int))], [D.v (.int .u8 ((UInt8.ofNat (n / 65536)).toNat : Int))], [D.v (.int .u8 ((UInt8.ofNat (n / 256)).toNat : Int))], [D.v (.int .u8 ((UInt8.ofNat n).toNat : Int))]] = (b ++ bF n).map ai := by simp [bF, ai, aG]
theorem qN (n : Nat) : cc Tryd.prog HG 66 [.list 0 [] true, .v (.int .i64 n)] .one 1 ((bF n).map ai) [] := by
 refine cc.of Tryd.func66 rfl Tryd.ntmps66 (by simp) ?_; intro F hF h0 hT; simp only [List.zipIdx_cons, List.zipIdx_nil, List.map_cons, List.map_nil, Nat.zero_add, Nat.reduceAdd]; refine Sm.seq ?_; refine ab hF rfl ?_; refine gv hF oA (SmG.nil (aa (Sm.seq ?_))); refine ab hF rfl ?_; refine gv hF oM (gv hF oM ?_); refine gv hF (ah rfl rfl rfl (jR _ _ _ _ n 16777216 24 _ (by decide) (by decide))) ?_; refine gv hF (cB rfl rfl (fu _ Tryd.underlying3 Tryd.underlying5)) (gv hF oM ?_); refine gv hF (ah rfl rfl rfl (jR _ _ _ _ n 65536 16 _ (by decide) (by decide))) ?_; refine gv hF (cB rfl rfl (fu _ Tryd.underlying3 Tryd.underlying5)) (gv hF oM ?_); refine gv hF (ah rfl rfl rfl (jR _ _ _ _ n 256 8 _ (by decide) (by decide))) ?_; refine gv hF (cB rfl rfl (fu _ Tryd.underlying3 Tryd.underlying5)) (gv hF oM (gv hF (cB rfl rfl (fu _ Tryd.underlying3 Tryd.underlying5)) ?_)); refine gv hF (bc rfl rfl (by simp only [go_sem, ai] <;> rfl)) ?_; refine SmG.appendFresh hF lf rfl rfl rfl rfl rfl rfl (Or.inl rfl) (by simp) (by simp) ?_; have h := sd [] n; simp only [List.map_nil, List.nil_append] at h; rw [h]; refine gv hF oA (SmG.nil (aa (Sm.ret ?_))); exact ⟨0, rfl, rfl⟩
theorem Hl (b : zBz) (n : Nat) (hb : b.length <= 1000000) : fH Tryd.prog HG 66 [(0, dB 1 (b.map ai))] 1 [.sref 0 0 b.length, .d (.v (.int .i64 n))] (.sref 1 0 (b ++ bF n).length) [(1, dB 1 ((b ++ bF n).map ai))] 2 := by
 have hl : b.length = (b.map ai).length := by simp
 refine fH.of Tryd.func66 rfl Tryd.ntmps66 (by simp) ?_; intro F hF h0 hT; simp only [List.zipIdx_cons, List.zipIdx_nil, List.map_cons, List.map_nil, Nat.zero_add, Nat.reduceAdd]; refine Sm.to (pU (by omega) (by
  intro t y hy; simp only [look] at hy; split at hy
  ·cases hy; exact ⟨_, rfl⟩
  ·cases hy)) ?_
 refine Sm.seq ?_; refine ab hF rfl ?_; refine gv hF oA (SmG.nil (aa (Sm.seq ?_))); refine ab hF rfl ?_; refine gv hF oM (gv hF oM ?_); refine gv hF (ah rfl rfl rfl (jR _ _ _ _ n 16777216 24 _ (by decide) (by decide))) ?_; refine gv hF (cB rfl rfl (fu _ Tryd.underlying3 Tryd.underlying5)) (gv hF oM ?_); refine gv hF (ah rfl rfl rfl (jR _ _ _ _ n 65536 16 _ (by decide) (by decide))) ?_; refine gv hF (cB rfl rfl (fu _ Tryd.underlying3 Tryd.underlying5)) (gv hF oM ?_); refine gv hF (ah rfl rfl rfl (jR _ _ _ _ n 256 8 _ (by decide) (by decide))) ?_; refine gv hF (cB rfl rfl (fu _ Tryd.underlying3 Tryd.underlying5)) (gv hF oM (gv hF (cB rfl rfl (fu _ Tryd.underlying3 Tryd.underlying5)) ?_)); refine gv hF (bc rfl rfl (by simp only [go_sem, ai] <;> rfl)) ?_; rw [hl]; refine SmG.appendOwn hF lf rfl rfl rfl rfl rfl rfl rfl (by rfl) (Or.inl rfl) (by exact frH) ?_ ?_ ?_; rotate_left; rotate_left; simp only [dn, Pk.v, V.free, rep, bne_self_eq_false, Nat.reduceAdd, Nat.reduceBNe, Nat.reduceBEq, Nat.reduceEqDiff, reduceIte, Bool.false_eq_true]
 ·rw [sd]; refine gv hF oA (SmG.nil (aa (Sm.ret ?_))); rw [show ((b ++ bF n).map ai).length = (b ++ bF n).length by simp]; exact ⟨⟨_, .inr ⟨.one, rfl⟩, V.le.refl _⟩, nJ ⟨rfl, trivial⟩, Nat.le_of_ble_eq_true rfl⟩
 ·simp; omega
 ·simp; omega
theorem Li (b : zBz) (hb : b.length <= 1000000) : fH Tryd.prog HG 80 [(0, dB 1 (b.map ai))] 1 [.sref 0 0 b.length] (.sref 1 0 (b ++ Sha.sum b).length) [(1, dB 1 ((b ++ Sha.sum b).map ai))] 2 := by
 have hl : b.length = (b.map ai).length := by simp
 have hsl : (Sha.sum b).length = 32 := Sha.out_length _; have hrl : (ay (Sha.sum b)).length = 32 := cQ hsl; refine fH.of Tryd.func80 rfl Tryd.ntmps80 (by simp) ?_; intro F hF h0 hT; simp only [List.zipIdx_cons, List.zipIdx_nil, List.map_cons, List.map_nil, Nat.zero_add, Nat.reduceAdd]; refine Sm.to (pU (by omega) (by
  intro t y hy; simp [look] at hy)) ?_
 refine Sm.seq ?_; refine ab hF rfl ?_; refine gv hF oA (SmG.nil (aa (Sm.seq ?_))); refine ab hF rfl ?_; refine gv hF oM ?_; rw [hl]; refine nr hF (l := 1) (b.map ai) rfl rfl (by kernel_rfl) rfl rfl rfl (by simp only [cR, bf]; simp; rfl) (wd b hb) (zO _) ?_; have hsum : qZ (Sha.sum b) = .agg 32 (ay (Sha.sum b)) := rfl; rw [hsum]; generalize hs : Sha.sum b = s at hsl hrl; refine SmG.new hF rfl rfl rfl (aF rfl mA) ?_; refine SmG.store hF rfl rfl rfl rfl rfl (by simp only [go_sem, cj] <;> rfl) ?_; refine SmG.nil (aa (Sm.seq ?_)); simp only [rep, Nat.reduceEqDiff, if_true]; refine Sm.freeze (l := 2) [ay s] rfl ?_; simp only [Pk.v, cR, bf, bL,  reduceIte, Nat.reduceAdd, Nat.zero_add, List.length_map, List.length_append, Nat.le_refl, true_and, and_self, if_true, Nat.reduceEqDiff, true_and]; have hch : ft 1 32 (ay s) = s.map ai := by
  have := kO (ay s); rw [hrl] at this; rw [this]; simp [ay, ai]
 have htk : (s.map ai).take 32 = s.map ai := List.take_of_length_le (by simp [hsl]); refine ab hF rfl ?_; refine gv hF oM ?_; refine gv hF (bC rfl rfl rfl rfl rfl (by simp only [go_sem, hch, htk] <;> rfl)) ?_; refine SmG.appendOwn hF lf rfl rfl rfl rfl rfl rfl rfl (by (simp; done)) (Or.inl rfl) (by exact frH) ?_ ?_ ?_; rotate_left; rotate_left; simp only [dn, Pk.v, V.free, rep, bne_self_eq_false, Nat.reduceAdd, Nat.reduceBNe, Nat.reduceBEq, Nat.reduceEqDiff, reduceIte, Bool.false_eq_true]
 ·rw [<- List.map_append]; refine SmG.cut 2 (by (repeat' first | exact pF _ | exact nh _ _ | exact trivial | refine nM ?_ (by decide) | refine lX ?_ (vA _ _ _) | refine pG ?_ ?_ | refine ⟨rfl, ?_⟩)) ?_; simp only [Pk.v, tT, qd, V.lt, Nat.reduceAdd, Nat.reduceLT, decide_true, decide_false, reduceIte, Bool.false_eq_true, Nat.lt_irrefl, Nat.not_lt_zero, Nat.zero_lt_one, Nat.zero_lt_succ, Nat.zero_lt_two, Nat.one_lt_two]; refine gv hF oA (SmG.nil (aa (Sm.ret ?_)))
  skip
  rw [show ((b ++ s).map ai).length = b.length + s.length by simp]; exact ⟨⟨_, .inr ⟨.one, rfl⟩, V.le.refl _⟩, nJ ⟨rfl, trivial⟩, Nat.le_of_ble_eq_true rfl⟩
 ·simp; omega
 ·simp; omega
theorem AF (b : zBz) (hb : b.length <= 1000000) : fH Tryd.prog HG 74 [(0, dB 1 (b.map ai))] 1 [.sref 0 0 b.length] (.sref 1 0 (b ++ Sha.sum b).length) [(1, dB 1 ((b ++ Sha.sum b).map ai))] 2 := by
 have hl : b.length = (b.map ai).length := by simp
 have hsl : (Sha.sum b).length = 32 := Sha.out_length _; have hrl : (ay (Sha.sum b)).length = 32 := cQ hsl; refine fH.of Tryd.func74 rfl Tryd.ntmps74 (by simp) ?_; intro F hF h0 hT; simp only [List.zipIdx_cons, List.zipIdx_nil, List.map_cons, List.map_nil, Nat.zero_add, Nat.reduceAdd]; refine Sm.to (pU (by omega) (by
  intro t y hy; simp [look] at hy)) ?_
 refine Sm.seq ?_; refine ab hF rfl ?_; refine gv hF oA (SmG.nil (aa (Sm.seq ?_))); refine ab hF rfl ?_; refine gv hF oM ?_; rw [hl]; refine nr hF (l := 1) (b.map ai) rfl rfl (by kernel_rfl) rfl rfl rfl (by simp only [cR, bf]; simp; rfl) (qS b hb HG) (zO _) ?_; have hsum : qZ (Sha.sum b) = .agg 32 (ay (Sha.sum b)) := rfl; rw [hsum]; generalize hs : Sha.sum b = s at hsl hrl; refine SmG.new hF rfl rfl rfl (aF rfl mA) ?_; refine SmG.store hF rfl rfl rfl rfl rfl (by simp only [go_sem, cj] <;> rfl) ?_; refine SmG.nil (aa (Sm.seq ?_)); simp only [rep, Nat.reduceEqDiff, if_true]; refine Sm.freeze (l := 2) [ay s] rfl ?_; simp only [Pk.v, cR, bf, bL,  reduceIte, Nat.reduceAdd, Nat.zero_add, List.length_map, List.length_append, Nat.le_refl, true_and, and_self, if_true, Nat.reduceEqDiff, true_and]; have hch : ft 1 32 (ay s) = s.map ai := by
  have := kO (ay s); rw [hrl] at this; rw [this]; simp [ay, ai]
 have htk : (s.map ai).take 32 = s.map ai := List.take_of_length_le (by simp [hsl]); refine ab hF rfl ?_; refine gv hF oM ?_; refine gv hF (bC rfl rfl rfl rfl rfl (by simp only [go_sem, hch, htk] <;> rfl)) ?_; refine SmG.appendOwn hF lf rfl rfl rfl rfl rfl rfl rfl (by (simp; done)) (Or.inl rfl) (by exact frH) ?_ ?_ ?_; rotate_left; rotate_left; simp only [dn, Pk.v, V.free, rep, bne_self_eq_false, Nat.reduceAdd, Nat.reduceBNe, Nat.reduceBEq, Nat.reduceEqDiff, reduceIte, Bool.false_eq_true]
 ·rw [<- List.map_append]; refine SmG.cut 2 (by (repeat' first | exact pF _ | exact nh _ _ | exact trivial | refine nM ?_ (by decide) | refine lX ?_ (vA _ _ _) | refine pG ?_ ?_ | refine ⟨rfl, ?_⟩)) ?_; simp only [Pk.v, tT, qd, V.lt, Nat.reduceAdd, Nat.reduceLT, decide_true, decide_false, reduceIte, Bool.false_eq_true, Nat.lt_irrefl, Nat.not_lt_zero, Nat.zero_lt_one, Nat.zero_lt_succ, Nat.zero_lt_two, Nat.one_lt_two]; refine gv hF oA (SmG.nil (aa (Sm.ret ?_)))
  skip
  rw [show ((b ++ s).map ai).length = b.length + s.length by simp]; exact ⟨⟨_, .inr ⟨.one, rfl⟩, V.le.refl _⟩, nJ ⟨rfl, trivial⟩, Nat.le_of_ble_eq_true rfl⟩
 ·simp; omega
 ·simp; omega
end
section
def iK (n : Nat) (x : zBz) : zBz := (80 :: (bF n ++ bF x.length ++ x)) ++ Sha.sum (80 :: (bF n ++ bF x.length ++ x))
def mN (n : Nat) (k : zBz) : zBz := (68 :: (bF n ++ k)) ++ Sha.sum (68 :: (bF n ++ k))
theorem qM (n : Nat) : aj Tryd.prog HG 73 [.v (.int .i64 n)] (.list 1 ((bF n).map ai) true) := by
 refine aj.of Tryd.func73 rfl Tryd.ntmps73 (by simp) ?_; intro F hF h0 hT; simp only [List.zipIdx_cons, List.zipIdx_nil, List.map_cons, List.map_nil, Nat.zero_add, Nat.reduceAdd]; refine Sm.seq ?_; refine ab hF rfl ?_; refine gv hF oA (SmG.nil (aa (Sm.seq ?_))); refine ab hF rfl ?_; refine gv hF oM ?_; refine gv hF (ah rfl rfl rfl (jR _ _ _ _ n 16777216 24 _ (by decide) (by decide))) ?_; refine gv hF (cB rfl rfl (fu _ Tryd.underlying3 Tryd.underlying5)) (gv hF oM ?_); refine gv hF (ah rfl rfl rfl (jR _ _ _ _ n 65536 16 _ (by decide) (by decide))) ?_; refine gv hF (cB rfl rfl (fu _ Tryd.underlying3 Tryd.underlying5)) (gv hF oM ?_); refine gv hF (ah rfl rfl rfl (jR _ _ _ _ n 256 8 _ (by decide) (by decide))) ?_; refine gv hF (cB rfl rfl (fu _ Tryd.underlying3 Tryd.underlying5)) (gv hF oM (gv hF (cB rfl rfl (fu _ Tryd.underlying3 Tryd.underlying5)) ?_)); refine gv hF (bc rfl rfl (by simp only [go_sem, ai] <;> rfl)) ?_; refine gv hF oA (SmG.nil (aa (Sm.ret ?_))); exact ⟨_, rfl, by have h := sd [] n; simp only [List.map_nil, List.nil_append] at h; rw [<- h]; exact D.le.refl _⟩
theorem BA (n : Nat) (x : zBz) (hx : x.length <= 100000) : aj Tryd.prog HG 50 [.v (.int .i64 n), .list 1 (x.map ai) false] (.list 1 ((iK n x).map ai) false) := by
 have hn4 : ∀ n, (bF n).length = 4 := fun n => rfl
 refine aj.of Tryd.func50 rfl Tryd.ntmps50 (by simp) ?_; intro F hF h0 hT; simp only [List.zipIdx_cons, List.zipIdx_nil, List.map_cons, List.map_nil, Nat.zero_add, Nat.reduceAdd]; refine Sm.seq ?_; refine ab hF rfl ?_; refine gv hF oA (SmG.nil (aa (Sm.seq ?_))); refine ab hF rfl ?_; refine SmG.buildOwn hF rfl rfl rfl rfl rfl (sz := 1) (rows := [ai 80]) (by simp [bn, Tryd.underlying30, sz5, ze5]; rfl) (by simp) ?_; refine gv hF oM ?_; refine SmG.call hF rfl rfl (by kernel_rfl) rfl rfl rfl (qM n) ?_; rw [show [ai 80] = [(80 : UInt8)].map ai from rfl]; refine SmG.appendOwn hF lf rfl rfl rfl rfl rfl rfl rfl (by rfl) (Or.inl rfl) (by exact frH) ?_ ?_ ?_; rotate_left; rotate_left; simp only [dn, Pk.v, V.free, rep, bne_self_eq_false, Nat.reduceAdd, Nat.reduceBNe, Nat.reduceBEq, Nat.reduceEqDiff, reduceIte, Bool.false_eq_true]
 ·rw [<- List.map_append]; refine gv hF oA (SmG.nil (aa (Sm.seq ?_))); refine ab hF rfl ?_; refine gv hF oM (gv hF oM ?_); refine gv hF (aJ rfl rfl (by simp only [go_sem, ai] <;> rfl)) ?_; refine SmG.call hF rfl rfl (by kernel_rfl) rfl rfl rfl (qM x.length) ?_; refine SmG.appendOwn hF lf rfl rfl rfl rfl rfl rfl rfl (by rfl) (Or.inl rfl) (by exact frH) ?_ ?_ ?_; rotate_left; rotate_left; simp only [dn, Pk.v, V.free, rep, bne_self_eq_false, Nat.reduceAdd, Nat.reduceBNe, Nat.reduceBEq, Nat.reduceEqDiff, reduceIte, Bool.false_eq_true]
  ·rw [<- List.map_append]; refine gv hF oA (SmG.nil (aa (Sm.seq ?_))); refine ab hF rfl ?_; refine gv hF oM (gv hF oM ?_); refine SmG.appendOwn hF lf rfl rfl rfl rfl rfl rfl rfl (by rfl) (Or.inl rfl) (by exact frH) ?_ ?_ ?_; rotate_left; rotate_left; simp only [dn, Pk.v, V.free, rep, bne_self_eq_false, Nat.reduceAdd, Nat.reduceBNe, Nat.reduceBEq, Nat.reduceEqDiff, reduceIte, Bool.false_eq_true]
   ·rw [<- List.map_append]; have hb : ([80] ++ bF n ++ bF x.length ++ x).length <= 1000000 := by simp [hn4]; omega
    have he : [80] ++ bF n ++ bF x.length ++ x = 80 :: (bF n ++ bF x.length ++ x) := by simp
    unfold iK; rw [he] at hb ⊢; generalize 80 :: (bF n ++ bF x.length ++ x) = b at hb; rw [show (b.map ai).length = b.length by simp]; refine nt hF 0 rfl rfl rfl rfl rfl (by kernel_rfl) rfl (AF b hb) rfl rfl ?_; simp only [V.ren, upN, bL, Nat.lt_irrefl, if_false, if_true, Nat.sub_self, Nat.add_zero, Nat.reduceAdd]; refine oV (l := 1) ((b ++ Sha.sum b).map ai) rfl ?_; simp only [cR, bf, hO, dt, bL, if_true, Nat.reduceEqDiff, if_false, Nat.zero_add, List.length_map, Nat.le_refl, and_self]; refine gv hF oA (SmG.nil (aa (Sm.ret ?_))); exact ⟨_, rfl, D.le.refl _⟩
   ·simp [hn4]; omega
   ·simp [hn4]; omega
  ·simp [hn4]
  ·simp [hn4]
 ·simp [hn4]
 ·simp [hn4]
theorem zA (n : Nat) (k : Vec 32) : aj Tryd.prog HG 78 [.v (.int .i64 n), .agg 32 (ay k.l)] (.list 1 ((mN n k.l).map ai) false) := by
 have hn4 : ∀ n, (bF n).length = 4 := fun n => rfl
 have hk := k.h; have hrl : (ay k.l).length = 32 := cQ hk; have hch : ft 1 32 (ay k.l) = k.l.map ai := by
  have := kO (ay k.l); rw [hrl] at this; rw [this]; simp [ay, ai]
 have htk : (k.l.map ai).take 32 = k.l.map ai := List.take_of_length_le (by simp [hk]); refine aj.of Tryd.func78 rfl Tryd.ntmps78 (by simp) ?_; intro F hF h0 hT; simp only [List.zipIdx_cons, List.zipIdx_nil, List.map_cons, List.map_nil, Nat.zero_add, Nat.reduceAdd]; refine Sm.seq ?_; refine ab hF rfl ?_; refine SmG.new hF rfl rfl rfl (fb rfl rfl (by simp only [go_sem, ai] <;> rfl)) ?_; refine gv hF oA (SmG.nil (aa (Sm.seq ?_))); refine Sm.freeze (l := 0) [ay k.l] rfl ?_; simp only [Pk.v, cR, bf, bL,  reduceIte, Nat.reduceAdd, Nat.zero_add, List.length_map, List.length_append, Nat.le_refl, true_and, and_self, if_true, Nat.reduceEqDiff, true_and]; refine ab hF rfl ?_; refine SmG.buildOwn hF rfl rfl rfl rfl rfl (sz := 1) (rows := [ai 68]) (by simp [bn, Tryd.underlying30, sz5, ze5]; rfl) (by simp) ?_; refine gv hF oM ?_; refine SmG.call hF rfl rfl (by kernel_rfl) rfl rfl rfl (qM n) ?_; rw [show [ai 68] = [(68 : UInt8)].map ai from rfl]; refine SmG.appendOwn hF lf rfl rfl rfl rfl rfl rfl rfl (by rfl) (Or.inl rfl) (by exact frH) ?_ ?_ ?_; rotate_left; rotate_left; simp only [dn, Pk.v, V.free, rep, bne_self_eq_false, Nat.reduceAdd, Nat.reduceBNe, Nat.reduceBEq, Nat.reduceEqDiff, reduceIte, Bool.false_eq_true]
 ·rw [<- List.map_append]; refine gv hF oA (SmG.nil (aa (Sm.seq ?_))); refine ab hF rfl ?_; refine gv hF oM ?_; refine gv hF (bC rfl rfl rfl rfl rfl (by simp only [go_sem, ai, hch, htk] <;> rfl)) ?_; refine SmG.appendOwn hF lf rfl rfl rfl rfl rfl rfl rfl (by rfl) (Or.inl rfl) (by exact frH) ?_ ?_ ?_; rotate_left; rotate_left; simp only [dn, Pk.v, V.free, rep, bne_self_eq_false, Nat.reduceAdd, Nat.reduceBNe, Nat.reduceBEq, Nat.reduceEqDiff, reduceIte, Bool.false_eq_true]
  ·rw [<- List.map_append]; have hb : ([68] ++ bF n ++ k.l).length <= 1000000 := by simp [hn4, hk]
   have he : [68] ++ bF n ++ k.l = 68 :: (bF n ++ k.l) := by simp
   unfold mN; rw [he] at hb ⊢; generalize 68 :: (bF n ++ k.l) = b at hb; rw [show (b.map ai).length = b.length by simp]; refine nt hF 1 rfl rfl rfl rfl rfl (by kernel_rfl) rfl (AF b hb) rfl rfl ?_; simp only [V.ren, upN, bL, Nat.lt_irrefl, if_false, if_true, Nat.sub_self, Nat.add_zero, Nat.reduceAdd]; refine oV (l := 2) ((b ++ Sha.sum b).map ai) rfl ?_; simp only [cR, bf, hO, dt, bL, if_true, Nat.reduceEqDiff, if_false, Nat.zero_add, List.length_map, Nat.le_refl, and_self]; refine gv hF oA (SmG.nil (aa (Sm.ret ?_))); exact ⟨_, rfl, D.le.refl _⟩
  ·simp [hn4, hk]
  ·simp [hn4, hk]
 ·simp [hn4]
 ·simp [hn4]
theorem Ja (l : List zBz) : aj Tryd.prog HG 79 [.list 1 (l.map av) false] (.list 1 (l.map av) true) := by
 refine aj.of Tryd.func79 rfl Tryd.ntmps79 (by simp) ?_; intro F hF h0 hT; simp only [List.zipIdx_cons, List.zipIdx_nil, List.map_cons, List.map_nil, Nat.zero_add, Nat.reduceAdd]; refine Sm.seq ?_; refine ab hF rfl ?_; refine gv hF oA (SmG.nil (aa (Sm.seq ?_))); refine ab hF rfl ?_; refine gv hF oM (gv hF oM ?_); refine gv hF (aJ rfl rfl (by simp only [go_sem, List.take_length, List.length_map] <;> rfl)) ?_; refine gv hF oM ?_; refine gv hF (aJ rfl rfl (by simp only [go_sem, List.take_length, List.length_map] <;> rfl)) ?_; refine gv hF (bC rfl rfl rfl rfl rfl (by simp only [go_sem, List.take_length, List.length_map] <;> rfl)) ?_; refine gv hF oA (SmG.nil (aa (Sm.ret ?_))); have h : List.take l.length (List.map av l) = List.map av l := List.take_of_length_le (by simp); exact ⟨_, rfl, by rw [h]; exact D.le.refl _⟩
def mi (s : Sto) (kind : UInt8) (rest : zBz) : Sto :=
 { s with queue := s.queue ++ [(kind :: (bF (s.safe.length + s.queue.length) ++ rest)) ++ Sha.sum (kind :: (bF (s.safe.length + s.queue.length) ++ rest))] }
theorem FA (s : Sto) (kind : UInt8) (rest : zBz) (hs : s.safe.length <= 1000000) (hq : s.queue.length <= 1000000) (hr : rest.length <= 100000) : aj Tryd.prog HG 65 [.agg 3 (Sto.row s), .v (.int .u8 (kind.toNat : Int)), .list 1 (rest.map ai) false] (.agg 3 (Sto.row (mi s kind rest))) := by
 have hn4 : ∀ n, (bF n).length = 4 := fun n => rfl
 obtain ⟨objs, safe, queue⟩ := s; simp only [mi, Sto.row] at hs hq ⊢; refine aj.of Tryd.func65 rfl Tryd.ntmps65 (by simp) ?_; intro F hF h0 hT; simp only [List.zipIdx_cons, List.zipIdx_nil, List.map_cons, List.map_nil, Nat.zero_add, Nat.reduceAdd]; refine Sm.seq ?_; refine ab hF rfl ?_; refine SmG.new hF rfl rfl rfl (fb rfl rfl (by simp only [go_sem, ac] <;> rfl)) ?_; refine SmG.new hF rfl rfl rfl (aF rfl mz) ?_; refine SmG.nil (aa (Sm.seq ?_)); refine ab hF rfl ?_; refine gv hF oM ?_; refine SmG.buildOwn hF rfl rfl rfl rfl rfl (sz := 1) (rows := [ai kind]) (by simp [bn, Tryd.underlying30, sz5, ze5]; rfl) (by simp) ?_; refine gv hF (ag rfl rfl (by simp only [go_sem, ac] <;> rfl)) ?_; refine gv hF (ae rfl rfl (by simp only [go_sem, ac] <;> rfl)) ?_; refine gv hF (aJ rfl rfl (by simp only [go_sem, ac] <;> rfl)) ?_; refine gv hF (ag rfl rfl (by simp only [go_sem, ac] <;> rfl)) ?_; refine gv hF (ae rfl rfl (by simp only [go_sem, ac] <;> rfl)) ?_; refine gv hF (aJ rfl rfl (by simp only [go_sem, ac] <;> rfl)) ?_; refine gv hF (ah rfl rfl rfl (by exact eN _ _ _ _ _ (aY _ (by omega)))) ?_; have hc : (safe.length : Int) + (queue.length : Int) = ((safe.length + queue.length : Nat) : Int) := by omega
 simp only [Nat.zero_add, Nat.reduceAdd]; rw [hc, show [ai kind] = [kind].map ai from rfl, show ([kind].map ai).length = [kind].length from rfl]; have hm : safe.length + queue.length <= 2000000 := by omega
 generalize safe.length + queue.length = m at hm; refine nt hF 2 rfl rfl rfl rfl rfl (by kernel_rfl) rfl (Hl [kind] m (by simp)) rfl rfl ?_; simp only [V.ren, upN, bL, Nat.lt_irrefl, if_false, if_true, Nat.sub_self, Nat.add_zero, Nat.reduceAdd, Nat.reduceEqDiff]; refine gv hF oA (SmG.nil (aa (Sm.seq ?_))); refine ab hF rfl ?_; refine gv hF (ag rfl rfl (by simp only [go_sem, ac] <;> rfl)) ?_; refine gv hF (ae rfl rfl (by simp only [go_sem, ac] <;> rfl)) ?_; refine SmG.call hF rfl rfl (by kernel_rfl) rfl rfl rfl (Ja queue) ?_; refine gv hF oM (gv hF oM ?_); rw [show ([kind] ++ bF m).length = (([kind] ++ bF m).map ai).length by simp]; refine SmG.appendOwn hF lf rfl rfl rfl rfl rfl rfl rfl (by rfl) (Or.inl rfl) (by exact frH) ?_ ?_ ?_; rotate_left; rotate_left; simp only [dn, Pk.v, V.free, rep, bne_self_eq_false, Nat.reduceAdd, Nat.reduceBNe, Nat.reduceBEq, Nat.reduceEqDiff, reduceIte, Bool.false_eq_true]
 ·rw [<- List.map_append]; have hb : ([kind] ++ bF m ++ rest).length <= 1000000 := by simp [hn4]; omega
  have he : [kind] ++ bF m ++ rest = kind :: (bF m ++ rest) := by simp
  rw [he] at hb ⊢; generalize kind :: (bF m ++ rest) = b at hb; rw [show (b.map ai).length = b.length by simp]; refine nt hF 3 rfl rfl rfl rfl rfl (by kernel_rfl) rfl (Li b hb) rfl rfl ?_; simp only [V.ren, upN, bL, Nat.lt_irrefl, if_false, if_true, Nat.sub_self, Nat.add_zero, Nat.reduceAdd, Nat.reduceEqDiff]; refine oV (l := 4) ((b ++ Sha.sum b).map ai) rfl ?_; simp only [cR, bf, hO, dt, cA, bL, if_true, Nat.reduceEqDiff, if_false, Nat.zero_add, List.length_map, Nat.le_refl, and_self, List.map_cons, List.map_nil]; refine gv hF (bc rfl rfl (by simp only [go_sem, ac] <;> rfl)) ?_; refine SmG.append hF tV rfl rfl rfl rfl rfl rfl (Or.inl rfl) (Or.inl rfl) (by simp; omega) (by simp; omega) ?_; refine gv hF (ag rfl rfl (by simp only [go_sem, ac] <;> rfl)) ?_; refine SmG.store hF rfl rfl rfl rfl rfl (by simp only [go_sem, ac] <;> rfl) ?_; refine SmG.nil (aa (Sm.seq ?_)); refine ab hF rfl ?_; refine gv hF (ae rfl rfl (by simp only [go_sem, ac] <;> rfl)) ?_; refine SmG.store hF rfl rfl rfl rfl rfl (by simp only [go_sem, ac] <;> rfl) ?_; refine SmG.nil (aa (Sm.ret ?_)); have hrow : queue.map av ++ [[D.list 1 ((b ++ Sha.sum b).map ai) false]] = (queue ++ [b ++ Sha.sum b]).map av := by simp [av, aB]
  rw [hrow]; refine cK rfl rfl (by simp only [go_sem, ac] <;> rfl) ?_; exact D.le.refl _
 ·simp [hn4]; omega
 ·simp [hn4]; omega
def dh (s : Sto) (x : zBz) : Sto × Vec 32 × Int :=
 if 65536 < x.length then (s, ⟨List.replicate 32 0, rfl⟩, 2) else
 if (aM s.objects (Sha.sum x)).isSome then (s, cC x, 0) else
 if 256 <= s.objects.length then (s, ⟨List.replicate 32 0, rfl⟩, 330) else
 ({ mi s 80 (bF x.length ++ x) with objects := s.objects ++ [⟨cC x, x⟩] }, cC x, 0)
theorem th {st : St} {x y : V} {a b c r : D} (hx : af st.env 4 = some x) (hy : af st.env 5 = some y) (hlx : aX Tryd.prog st.h 27 x = some (.d a)) (hly : aX Tryd.prog st.h 42 y = some (.d b)) (hc : af st.env 6 = some (.d c)) (hle : (D.tup [a, b, c]).le r) : wZ Tryd.prog Tryd.f40 r .ret st := by
 refine ⟨.tup [a, b, c], ?_, hle⟩; rw [aL] at hx hy hc; have hr : Tryd.f40.results = #[.cell 4 27, .cell 5 42, .tmp 6] := rfl; simp only [kI, hr, km, iW, hx, hy, hc, hlx, hly, Option.bind_some, vI, Option.map_some]
theorem eK {R : List D} {l : Nat} {h : zHz} (hl : look h l = some ⟨32, [R.map V.d]⟩) : aX Tryd.prog h 42 (.ref l 0 0) = some (.d (.agg 32 R)) := by
 have hs : seg (R.map V.d) 32 0 32 = R.map V.d := by
  unfold seg; rw [if_pos ⟨rfl, rfl⟩]
 have hp : bv (R.map V.d) = some R := gK _; simp only [aX, hl, Option.bind_some, List.getElem?_cons_zero, cj, oZ, pp, hs, hp]; rfl
theorem cI {a b c : D} {l : Nat} {h : zHz} (hl : look h l = some ⟨3, [[.d a, .d b, .d c]]⟩) : aX Tryd.prog h 27 (.ref l 0 0) = some (.d (.agg 3 [a, b, c])) := by
 simp only [aX, hl, Option.bind_some, List.getElem?_cons_zero, ac, oY, iN, seg]; rfl
set_option maxHeartbeats 8000000 in
theorem Mc (s : Sto) (x : zBz) (ho : s.objects.length <= 1000000) (hs : s.safe.length <= 1000000) (hq : s.queue.length <= 1000000) (hx : x.length <= 99000) : aj Tryd.prog HG 40 [.agg 3 (Sto.row s), .list 1 (x.map ai) false] (.tup [.agg 3 (Sto.row (dh s x).1), .agg 32 (ay (dh s x).2.1.l), .v (.int .i64 (dh s x).2.2)]) := by
 obtain ⟨objs, safe, queue⟩ := s; simp only [Sto.row] at ho hs hq ⊢; unfold dh; by_cases c1 : 65536 < x.length
 ·rw [if_pos c1]; refine aj.of Tryd.func40 rfl Tryd.ntmps40 (by simp) ?_; intro F hF h0 hT; simp only [List.zipIdx_cons, List.zipIdx_nil, List.map_cons, List.map_nil, Nat.zero_add, Nat.reduceAdd]; refine Sm.seq ?_; refine ab hF rfl ?_; refine SmG.new hF rfl rfl rfl (fb rfl rfl (by simp only [go_sem, ac] <;> rfl)) ?_; refine SmG.new hF rfl rfl rfl (aF rfl mz) ?_; refine SmG.new hF rfl rfl rfl (aF rfl mA) ?_; refine gv hF oA (SmG.nil (aa (Sm.seq (Sm.seq ?_)))); refine ab hF rfl ?_; refine gv hF oM ?_; refine gv hF (aJ rfl rfl (by simp only [go_sem, ac] <;> rfl)) ?_; refine gv hF (ah rfl rfl rfl (by exact JI _ _ _ _ _ (by omega))) ?_; refine SmG.nil (aa ?_); refine aZ hF rfl ?_; refine Sm.seq ?_; refine ab hF rfl ?_; refine gv hF (ae rfl rfl (by simp only [go_sem, ac] <;> rfl)) ?_; refine gv hF (gw rfl Tryd.underlying42 rfl Gv) ?_; refine SmG.store hF rfl rfl rfl rfl rfl (by simp only [go_sem, ac] <;> rfl) ?_; refine SmG.store hF rfl rfl rfl rfl rfl (by simp only [go_sem, ac] <;> rfl) ?_; refine gv hF oA (SmG.nil (aa (Sm.ret ?_))); simp only [ba, bR]; exact th rfl rfl (cI rfl) (eK (R := ay (List.replicate 32 0)) rfl) rfl (D.le.refl _)
 rw [if_neg c1]; obtain ⟨sx, hsx, hsv⟩ : ∃ sx : Vec 32, sx.l = Sha.sum x /\ sx = cC x := ⟨cC x, rfl, rfl⟩
 have hsl : sx.l.length = 32 := sx.h; have hrl : (ay sx.l).length = 32 := cQ hsl; have csum := wd x (by omega); rw [<- hsx] at csum ⊢; rw [<- hsv]; have cf := rU objs sx (by omega); cases hfn : aM objs sx.l with
 | some i =>
  have hfz : cF objs sx.l = (i : Int) := by unfold cF; rw [hfn]
  rw [hfz] at cf; simp only [Option.isSome_some, if_true]; refine aj.of Tryd.func40 rfl Tryd.ntmps40 (by simp) ?_; intro F hF h0 hT; simp only [List.zipIdx_cons, List.zipIdx_nil, List.map_cons, List.map_nil, Nat.zero_add, Nat.reduceAdd]; refine Sm.seq ?_; refine ab hF rfl ?_; refine SmG.new hF rfl rfl rfl (fb rfl rfl (by simp only [go_sem, ac] <;> rfl)) ?_; refine SmG.new hF rfl rfl rfl (aF rfl mz) ?_; refine SmG.new hF rfl rfl rfl (aF rfl mA) ?_; refine gv hF oA (SmG.nil (aa (Sm.seq (Sm.seq ?_)))); refine ab hF rfl ?_; refine gv hF oM ?_; refine gv hF (aJ rfl rfl (by simp only [go_sem, ac] <;> rfl)) ?_; refine gv hF (ah rfl rfl rfl (by exact wW _ _ _ _ _ (by omega))) ?_; refine SmG.nil (aa ?_); refine aS hF rfl ?_; refine Sm.skip ?_; refine aa (Sm.seq ?_); refine ab hF rfl ?_; refine gv hF oM ?_; refine SmG.call hF rfl rfl (by kernel_rfl) rfl rfl rfl (csum) ?_; refine SmG.new hF rfl rfl rfl (aF rfl mA) ?_; refine SmG.store hF rfl rfl rfl rfl rfl (by simp only [go_sem, ac] <;> rfl) ?_; refine SmG.nil (aa (Sm.seq (Sm.block (Sm.seq ?_)))); refine ab hF rfl ?_; refine gv hF (ag rfl rfl (by simp only [go_sem, ac] <;> rfl)) ?_; refine gv hF (ae rfl rfl (by simp only [go_sem, ac] <;> rfl)) ?_; refine gv hF (ae rfl rfl (eK rfl)) ?_; refine SmG.call hF rfl rfl (by kernel_rfl) rfl rfl rfl (cf) ?_; refine gv hF (ah rfl rfl rfl (by exact pL _ _ _ _ _ (by omega))) ?_; refine gv hF oA (SmG.nil (aa ?_)); refine aZ hF rfl ?_; refine Sm.seq ?_; refine dD hF rfl ?_; refine pq (n := 5) rfl rfl ?_; refine cu (n' := 2) (ls' := [true, true, true, false, false]) ?s1_1 ?h1_1 (fun r1_1 => ?k1_1)
  case' k1_1 => refine cu (n' := 3) (ls' := [true, true, false, false, false]) ?s1_0 ?h1_0 (fun r1_0 => ?k1_0)
  case k1_0 =>
   refine SmM.step hF [0, 1] rfl (by kernel_rfl) rfl ⟨⟨_, rfl, ?_⟩, ⟨_, rfl, ?_⟩, trivial⟩
   ·refine gv hF (ae rfl rfl (by simp only [go_sem, ac] <;> rfl)) ?_; refine SmG.nil (aa ?_); refine SmM.step hF [1, 2] rfl (by kernel_rfl) rfl ⟨⟨_, rfl, ?_⟩, ⟨_, rfl, ?_⟩, trivial⟩
    ·refine gv hF (ae rfl rfl (eK rfl)) (SmG.nil (aa ?_)); exact r1_0
    ·refine SmG.store hF rfl rfl rfl rfl rfl (by simp only [go_sem, ac] <;> rfl) ?_; refine SmG.nil (aa ?_); refine SmM.step hF [1] rfl (by kernel_rfl) rfl ⟨⟨_, rfl, ?_⟩, trivial⟩; refine gv hF (ae rfl rfl (eK rfl)) (SmG.nil (aa ?_)); exact r1_1
   ·refine gv hF (ae rfl rfl (eK rfl)) (SmG.nil (aa ?_)); refine SmM.step hF [0] rfl (by kernel_rfl) rfl ⟨⟨_, rfl, ?_⟩, trivial⟩; refine gv hF (ae rfl rfl (by simp only [go_sem, ac] <;> rfl)) ?_; refine SmG.nil (aa ?_); exact bA r1_0
  case h1_0 =>
   refine SmM.step hF [2] rfl (by kernel_rfl) rfl ⟨⟨_, rfl, ?_⟩, trivial⟩; refine SmG.store hF rfl rfl rfl rfl rfl (by simp only [go_sem, ac] <;> rfl) ?_; refine SmG.nil (aa ?_); exact bA r1_1
  case h1_1 =>
   refine SmM.step hF [3] rfl (by kernel_rfl) rfl ⟨⟨_, rfl, ?_⟩, trivial⟩; refine SmG.store hF rfl rfl rfl rfl rfl (by simp only [go_sem, ac] <;> rfl) ?_; refine SmG.nil (aa ?_); refine SmM.step hF [4] rfl (by kernel_rfl) rfl ⟨⟨_, rfl, ?_⟩, trivial⟩; refine gv hF oA (SmG.nil (aa ?_)); refine SmM.nil (by kernel_rfl) ?_; refine aa (Sm.ret ?_); simp only [ba, bR]; exact th rfl rfl (cI rfl) (eK (R := ay sx.l) rfl) rfl (D.le.refl _)
 | none =>
  have hfz : cF objs sx.l = -1 := by unfold cF; rw [hfn]
  rw [hfz] at cf; simp only [Option.isSome_none, Bool.false_eq_true, if_false]; by_cases c3 : 256 <= objs.length
  ·rw [if_pos c3]; refine aj.of Tryd.func40 rfl Tryd.ntmps40 (by simp) ?_; intro F hF h0 hT; simp only [List.zipIdx_cons, List.zipIdx_nil, List.map_cons, List.map_nil, Nat.zero_add, Nat.reduceAdd]; refine Sm.seq ?_; refine ab hF rfl ?_; refine SmG.new hF rfl rfl rfl (fb rfl rfl (by simp only [go_sem, ac] <;> rfl)) ?_; refine SmG.new hF rfl rfl rfl (aF rfl mz) ?_; refine SmG.new hF rfl rfl rfl (aF rfl mA) ?_; refine gv hF oA (SmG.nil (aa (Sm.seq (Sm.seq ?_)))); refine ab hF rfl ?_; refine gv hF oM ?_; refine gv hF (aJ rfl rfl (by simp only [go_sem, ac] <;> rfl)) ?_; refine gv hF (ah rfl rfl rfl (by exact wW _ _ _ _ _ (by omega))) ?_; refine SmG.nil (aa ?_); refine aS hF rfl ?_; refine Sm.skip ?_; refine aa (Sm.seq ?_); refine ab hF rfl ?_; refine gv hF oM ?_; refine SmG.call hF rfl rfl (by kernel_rfl) rfl rfl rfl (csum) ?_; refine SmG.new hF rfl rfl rfl (aF rfl mA) ?_; refine SmG.store hF rfl rfl rfl rfl rfl (by simp only [go_sem, ac] <;> rfl) ?_; refine SmG.nil (aa (Sm.seq (Sm.block (Sm.seq ?_)))); refine ab hF rfl ?_; refine gv hF (ag rfl rfl (by simp only [go_sem, ac] <;> rfl)) ?_; refine gv hF (ae rfl rfl (by simp only [go_sem, ac] <;> rfl)) ?_; refine gv hF (ae rfl rfl (eK rfl)) ?_; refine SmG.call hF rfl rfl (by kernel_rfl) rfl rfl rfl (cf) ?_; refine gv hF (ah rfl rfl rfl (by exact pK _ _ _ _ _ (by omega))) ?_; refine gv hF oA (SmG.nil (aa ?_)); refine aS hF rfl ?_; refine Sm.seq ?_; refine ab hF rfl ?_; refine gv hF (ag rfl rfl (by simp only [go_sem, ac] <;> rfl)) ?_; refine gv hF (ae rfl rfl (by simp only [go_sem, ac] <;> rfl)) ?_; refine gv hF (aJ rfl rfl (by simp only [go_sem, ac] <;> rfl)) ?_; refine gv hF (ah rfl rfl rfl (by exact pL _ _ _ _ _ (by omega))) ?_; refine gv hF oA (SmG.nil (aa ?_)); refine aZ hF rfl ?_; refine Sm.seq ?_; refine ab hF rfl ?_; refine gv hF (ae rfl rfl (by simp only [go_sem, ac] <;> rfl)) ?_; refine gv hF (gw rfl Tryd.underlying42 rfl Gv) ?_; refine SmG.store hF rfl rfl rfl rfl rfl (by simp only [go_sem, ac] <;> rfl) ?_; refine SmG.store hF rfl rfl rfl rfl rfl (by simp only [go_sem, ac] <;> rfl) ?_
   refine gv hF oA (SmG.nil (aa (Sm.ret ?_))); simp only [ba, bR]; exact th rfl rfl (cI rfl) (eK (R := ay (List.replicate 32 0)) rfl) rfl (D.le.refl _)
  ·rw [if_neg c3]; refine aj.of Tryd.func40 rfl Tryd.ntmps40 (by simp) ?_; intro F hF h0 hT; simp only [List.zipIdx_cons, List.zipIdx_nil, List.map_cons, List.map_nil, Nat.zero_add, Nat.reduceAdd]; refine Sm.seq ?_; refine ab hF rfl ?_; refine SmG.new hF rfl rfl rfl (fb rfl rfl (by simp only [go_sem, ac] <;> rfl)) ?_; refine SmG.new hF rfl rfl rfl (aF rfl mz) ?_; refine SmG.new hF rfl rfl rfl (aF rfl mA) ?_; refine gv hF oA (SmG.nil (aa (Sm.seq (Sm.seq ?_)))); refine ab hF rfl ?_; refine gv hF oM ?_; refine gv hF (aJ rfl rfl (by simp only [go_sem, ac] <;> rfl)) ?_; refine gv hF (ah rfl rfl rfl (by exact wW _ _ _ _ _ (by omega))) ?_; refine SmG.nil (aa ?_); refine aS hF rfl ?_; refine Sm.skip ?_; refine aa (Sm.seq ?_); refine ab hF rfl ?_; refine gv hF oM ?_; refine SmG.call hF rfl rfl (by kernel_rfl) rfl rfl rfl (csum) ?_; refine SmG.new hF rfl rfl rfl (aF rfl mA) ?_; refine SmG.store hF rfl rfl rfl rfl rfl (by simp only [go_sem, ac] <;> rfl) ?_; refine SmG.nil (aa (Sm.seq (Sm.block (Sm.seq ?_)))); refine ab hF rfl ?_; refine gv hF (ag rfl rfl (by simp only [go_sem, ac] <;> rfl)) ?_; refine gv hF (ae rfl rfl (by simp only [go_sem, ac] <;> rfl)) ?_; refine gv hF (ae rfl rfl (eK rfl)) ?_; refine SmG.call hF rfl rfl (by kernel_rfl) rfl rfl rfl (cf) ?_; refine gv hF (ah rfl rfl rfl (by exact pK _ _ _ _ _ (by omega))) ?_; refine gv hF oA (SmG.nil (aa ?_)); refine aS hF rfl ?_; refine Sm.seq ?_; refine ab hF rfl ?_; refine gv hF (ag rfl rfl (by simp only [go_sem, ac] <;> rfl)) ?_; refine gv hF (ae rfl rfl (by simp only [go_sem, ac] <;> rfl)) ?_; refine gv hF (aJ rfl rfl (by simp only [go_sem, ac] <;> rfl)) ?_; refine gv hF (ah rfl rfl rfl (by exact pK _ _ _ _ _ (by omega))) ?_; refine gv hF oA (SmG.nil (aa ?_)); refine aS hF rfl ?_; refine Sm.skip ?_; refine aI (aa (Sm.seq ?_)); simp only [rep, Nat.zero_add, Nat.reduceAdd, Nat.reduceEqDiff, if_true]; have hn4 : (bF x.length).length = 4 := rfl; obtain ⟨q', hq'⟩ : ∃ q', mi ⟨objs, safe, queue⟩ 80 (bF x.length ++ x) = ⟨objs, safe, q'⟩ := ⟨_, rfl⟩
   have hp : aj Tryd.prog HG 65 [.agg 3 [.list 33 (objs.map Ob.row) false, .list 1 (safe.map av) false, .list 1 (queue.map av) false], .v (.int .u8 80), .list 1 ((bF x.length ++ x).map ai) false] (.agg 3 (Sto.row (mi ⟨objs, safe, queue⟩ 80 (bF x.length ++ x)))) := FA ⟨objs, safe, queue⟩ 80 (bF x.length ++ x) hs hq (by simp [hn4]; omega); rw [hq'] at hp ⊢; simp only [Sto.row] at hp; refine BJ (ι := Unit) (fun _ => ⟨[(1, .d (.list 1 (x.map ai) false)), (2, .ref 0 0 0), (4, .ref 1 0 0), (5, .ref 2 0 0), (7, .ref 3 0 0)], [(3, ⟨32, [(ay sx.l).map V.d]⟩), (2, ⟨32, [(List.replicate 32 (D.v (.int .u8 0))).map V.d]⟩), (1, ⟨3, [[.d (.list 0 [] true), .d (.list 0 [] true), .d (.list 0 [] true)]]⟩), (0, ⟨3, [[.d (.list 33 (objs.map Ob.row) false), .d (.list 1 (safe.map av) false), .d (.list 1 (q'.map av) false)]]⟩)], 5⟩) ?_ ?_
   rotate_left
   ·refine dD hF rfl ?_; refine pq (n := 8) rfl rfl ?_; refine cu (n' := 2) (ls' := [true, true, true, true, true, true, false, false]) ?s2_10 ?h2_10 (fun r2_10 => ?k2_10)
    case' k2_10 => refine cu (n' := 3) (ls' := [true, true, true, true, true, false, false, false]) ?s2_9 ?h2_9 (fun r2_9 => ?k2_9)
    case' k2_9 => refine cu (n' := 4) (ls' := [true, true, true, true, false, false, false, false]) ?s2_8 ?h2_8 (fun r2_8 => ?k2_8)
    case' k2_8 => refine cu (n' := 4) (ls' := [true, true, true, false, true, false, false, false]) ?s2_7 ?h2_7 (fun r2_7 => ?k2_7)
    case' k2_7 => refine cu (n' := 4) (ls' := [false, true, true, true, true, false, false, false]) ?s2_6 ?h2_6 (fun r2_6 => ?k2_6)
    case' k2_6 => refine cu (n' := 5) (ls' := [true, true, true, false, false, false, false, false]) ?s2_5 ?h2_5 (fun r2_5 => ?k2_5)
    case' k2_5 => refine cu (n' := 5) (ls' := [true, true, false, false, true, false, false, false]) ?s2_4 ?h2_4 (fun r2_4 => ?k2_4)
    case' k2_4 => refine cu (n' := 5) (ls' := [false, true, true, false, true, false, false, false]) ?s2_3 ?h2_3 (fun r2_3 => ?k2_3)
    case' k2_3 => refine cu (n' := 6) (ls' := [true, true, false, false, false, false, false, false]) ?s2_2 ?h2_2 (fun r2_2 => ?k2_2)
    case' k2_2 => refine cu (n' := 6) (ls' := [true, false, false, false, true, false, false, false]) ?s2_1 ?h2_1 (fun r2_1 => ?k2_1)
    case' k2_1 => refine cu (n' := 6) (ls' := [false, true, false, false, true, false, false, false]) ?s2_0 ?h2_0 (fun r2_0 => ?k2_0)
    case k2_0 =>
     refine SmM.step hF [0, 1, 4] rfl (by kernel_rfl) rfl ⟨⟨_, rfl, ?_⟩, ⟨_, rfl, ?_⟩, ⟨_, rfl, ?_⟩, trivial⟩
     ·refine gv hF (ae rfl rfl (cI rfl)) (SmG.nil (aa ?_)); refine SmM.step hF [1, 4] rfl (by kernel_rfl) rfl ⟨⟨_, rfl, ?_⟩, ⟨_, rfl, ?_⟩, trivial⟩
      ·refine gv hF oM (SmG.nil (aa ?_)); exact r2_2
      ·refine gv hF oM (SmG.nil (aa ?_)); exact r2_1
     ·refine gv hF oM (SmG.nil (aa ?_)); refine SmM.step hF [0, 2, 4] rfl (by kernel_rfl) rfl ⟨⟨_, rfl, ?_⟩, ⟨_, rfl, ?_⟩, ⟨_, rfl, ?_⟩, trivial⟩
      ·refine gv hF (ae rfl rfl (cI rfl)) (SmG.nil (aa ?_)); exact bA r2_2
      ·refine gv hF (aJ rfl rfl (by simp only [go_sem, ac] <;> rfl)) ?_; refine SmG.nil (aa ?_); refine SmM.step hF [0, 3, 4] rfl (by kernel_rfl) rfl ⟨⟨_, rfl, ?_⟩, ⟨_, rfl, ?_⟩, ⟨_, rfl, ?_⟩, trivial⟩
       ·refine gv hF (ae rfl rfl (cI rfl)) (SmG.nil (aa ?_)); exact r2_5
       ·refine SmG.callO hF rfl rfl (by kernel_rfl) rfl rfl rfl (qN x.length) ?_; refine SmG.nil (aa ?_); refine SmM.step hF [0, 4] rfl (by kernel_rfl) rfl ⟨⟨_, rfl, ?_⟩, ⟨_, rfl, ?_⟩, trivial⟩
        ·refine gv hF (ae rfl rfl (cI rfl)) (SmG.nil (aa ?_)); exact r2_8
        ·refine gv hF oM (SmG.nil (aa ?_)); exact r2_6
       ·refine gv hF oM (SmG.nil (aa ?_)); exact r2_3
      ·refine gv hF oM (SmG.nil (aa ?_)); exact r2_0
     ·refine gv hF oM (SmG.nil (aa ?_)); refine SmM.step hF [0, 1] rfl (by kernel_rfl) rfl ⟨⟨_, rfl, ?_⟩, ⟨_, rfl, ?_⟩, trivial⟩
      ·refine gv hF (ae rfl rfl (cI rfl)) (SmG.nil (aa ?_)); exact bA r2_1
      ·refine gv hF oM (SmG.nil (aa ?_)); exact bA r2_0
    case h2_0 =>
     refine SmM.step hF [0, 2] rfl (by kernel_rfl) rfl ⟨⟨_, rfl, ?_⟩, ⟨_, rfl, ?_⟩, trivial⟩
     ·refine gv hF (ae rfl rfl (cI rfl)) (SmG.nil (aa ?_)); exact r2_4
     ·refine gv hF (aJ rfl rfl (by simp only [go_sem, ac] <;> rfl)) ?_; refine SmG.nil (aa ?_); exact bA r2_3
    case h2_1 =>
     refine SmM.step hF [1] rfl (by kernel_rfl) rfl ⟨⟨_, rfl, ?_⟩, trivial⟩; refine gv hF oM (SmG.nil (aa ?_)); exact bA r2_4
    case h2_2 =>
     refine SmM.step hF [2, 4] rfl (by kernel_rfl) rfl ⟨⟨_, rfl, ?_⟩, ⟨_, rfl, ?_⟩, trivial⟩
     ·refine gv hF (aJ rfl rfl (by simp only [go_sem, ac] <;> rfl)) ?_; refine SmG.nil (aa ?_); exact bA r2_5
     ·refine gv hF oM (SmG.nil (aa ?_)); exact bA r2_4
    case h2_3 =>
     refine SmM.step hF [0, 3] rfl (by kernel_rfl) rfl ⟨⟨_, rfl, ?_⟩, ⟨_, rfl, ?_⟩, trivial⟩
     ·refine gv hF (ae rfl rfl (cI rfl)) (SmG.nil (aa ?_)); exact r2_7
     ·refine SmG.callO hF rfl rfl (by kernel_rfl) rfl rfl rfl (qN x.length) ?_; refine SmG.nil (aa ?_); exact bA r2_6
    case h2_4 =>
     refine SmM.step hF [2] rfl (by kernel_rfl) rfl ⟨⟨_, rfl, ?_⟩, trivial⟩; refine gv hF (aJ rfl rfl (by simp only [go_sem, ac] <;> rfl)) ?_; refine SmG.nil (aa ?_); exact bA r2_7
    case h2_5 =>
     refine SmM.step hF [3, 4] rfl (by kernel_rfl) rfl ⟨⟨_, rfl, ?_⟩, ⟨_, rfl, ?_⟩, trivial⟩
     ·refine SmG.callO hF rfl rfl (by kernel_rfl) rfl rfl rfl (qN x.length) ?_; refine SmG.nil (aa ?_); exact bA r2_8
     ·refine gv hF oM (SmG.nil (aa ?_)); exact bA r2_7
    case h2_6 =>
     refine SmM.step hF [0, 5] rfl (by kernel_rfl) rfl ⟨⟨_, rfl, ?_⟩, ⟨_, rfl, ?_⟩, trivial⟩
     ·refine gv hF (ae rfl rfl (cI rfl)) (SmG.nil (aa ?_)); exact r2_9
     ·refine SmG.appendOwn hF lf rfl rfl rfl rfl rfl rfl rfl (by simp) (Or.inl rfl) (by exact frH) (by simp; omega) (by simp; omega) ?_; simp only [dn, Pk.v, V.free, rep, bne_self_eq_false, Nat.reduceAdd, Nat.reduceBNe, Nat.reduceBEq, Nat.reduceEqDiff, reduceIte, Bool.false_eq_true]; rw [<- List.map_append]; refine SmG.nil (aa ?_); refine SmM.step hF [0] rfl (by kernel_rfl) rfl ⟨⟨_, rfl, ?_⟩, trivial⟩; refine gv hF (ae rfl rfl (cI rfl)) (SmG.nil (aa ?_)); exact r2_10
    case h2_7 =>
     refine SmM.step hF [3] rfl (by kernel_rfl) rfl ⟨⟨_, rfl, ?_⟩, trivial⟩; refine SmG.callO hF rfl rfl (by kernel_rfl) rfl rfl rfl (qN x.length) ?_; refine SmG.nil (aa ?_); exact bA r2_9
    case h2_8 =>
     refine SmM.step hF [4] rfl (by kernel_rfl) rfl ⟨⟨_, rfl, ?_⟩, trivial⟩; refine gv hF oM (SmG.nil (aa ?_)); exact bA r2_9
    case h2_9 =>
     refine SmM.step hF [5] rfl (by kernel_rfl) rfl ⟨⟨_, rfl, ?_⟩, trivial⟩; refine SmG.appendOwn hF lf rfl rfl rfl rfl rfl rfl rfl (by simp) (Or.inl rfl) (by exact frH) (by simp; omega) (by simp; omega) ?_; simp only [dn, Pk.v, V.free, rep, bne_self_eq_false, Nat.reduceAdd, Nat.reduceBNe, Nat.reduceBEq, Nat.reduceEqDiff, reduceIte, Bool.false_eq_true]; rw [<- List.map_append]; refine SmG.nil (aa ?_); exact bA r2_10
    case h2_10 =>
     refine SmM.step hF [6] rfl (by kernel_rfl) rfl ⟨⟨_, rfl, ?_⟩, trivial⟩; refine SmG.freeze (l := 4) ((bF x.length ++ x).map ai) rfl ?_; simp only [cR, bf, hO, dt, cA, bL, if_true, Nat.reduceEqDiff, if_false, Nat.zero_add, List.length_map, Nat.le_refl, and_self, List.map_cons, List.map_nil]; refine SmG.call hF rfl rfl (by kernel_rfl) rfl rfl rfl hp ?_; refine SmG.nil (aa ?_); refine SmM.step hF [7] rfl (by kernel_rfl) rfl ⟨⟨_, rfl, ?_⟩, trivial⟩; refine SmG.store hF rfl rfl rfl rfl rfl (by simp only [go_sem, ac] <;> rfl) ?_; refine SmG.nil (aa ?_); refine SmM.nil (by kernel_rfl) ?_; refine aa ?_; exact ⟨(), aK ⟨rfl, rfl, rfl, rfl, rfl, trivial⟩ ⟨rfl, rfl, rfl, rfl, trivial⟩ (Nat.le_refl _)⟩
   intro _; simp only; have hbo := tR sx x; refine Sm.seq ?_; refine dD hF rfl ?_; refine ik hF rfl 0 10 (by kernel_rfl) ?_; simp only [List.take_succ_cons, List.take_zero, List.take_nil, List.drop_succ_cons, List.drop_zero, Nat.reduceSub]; refine hv hF (ag rfl rfl (by simp only [go_sem, ac] <;> rfl)) ?_; refine hv hF (ae rfl rfl (by simp only [go_sem, ac] <;> rfl)) ?_; refine au.c hF rfl rfl (by kernel_rfl) rfl rfl rfl (EI objs) ?_; refine hv hF (ae rfl rfl (eK rfl)) (hv hF oM ?_); refine au.c hF rfl rfl (by kernel_rfl) rfl rfl rfl (BS x (by omega)) ?_; refine hv hF (cZ rfl Tryd.underlying53 (by kernel_rfl) rfl hbo) ?_; refine hv hF (bc rfl rfl (by simp only [go_sem, ac] <;> rfl)) ?_; refine au.gives hF rfl rfl rfl (cq.append hF rM rfl rfl rfl (Or.inl rfl) (Or.inl rfl) (by simp; omega) (by simp; omega)) ?_; refine hv hF (ag rfl rfl (by simp only [go_sem, ac] <;> rfl)) ?_; refine au.last ?_; simp only [List.nil_append, List.cons_append]; refine lO hF 10 rfl (by kernel_rfl) rfl ?_; refine SmG.store hF rfl rfl rfl rfl rfl (by simp only [go_sem, ac] <;> rfl) ?_; refine SmG.nil (aa ?_); refine SmA.nil (Nat.le_of_ble_eq_true rfl) ?_; refine aa (Sm.seq ?_); simp only [rep, Nat.reduceEqDiff, if_false, if_true]; have hrow : objs.map Ob.row ++ [Ob.row ⟨sx, x⟩] = (objs ++ [(⟨sx, x⟩ : Ob)]).map Ob.row := by simp
   rw [hrow]; refine dD hF rfl ?_; refine pq (n := 5) rfl rfl ?_; refine cu (n' := 2) (ls' := [true, true, true, false, false]) ?s3_1 ?h3_1 (fun r3_1 => ?k3_1)
   case' k3_1 => refine cu (n' := 3) (ls' := [true, true, false, false, false]) ?s3_0 ?h3_0 (fun r3_0 => ?k3_0)
   case k3_0 =>
    refine SmM.step hF [0, 1] rfl (by kernel_rfl) rfl ⟨⟨_, rfl, ?_⟩, ⟨_, rfl, ?_⟩, trivial⟩
    ·refine gv hF (ae rfl rfl (cI rfl)) (SmG.nil (aa ?_)); refine SmM.step hF [1, 2] rfl (by kernel_rfl) rfl ⟨⟨_, rfl, ?_⟩, ⟨_, rfl, ?_⟩, trivial⟩
     ·refine gv hF (ae rfl rfl (eK rfl)) (SmG.nil (aa ?_)); exact r3_0
     ·refine SmG.store hF rfl rfl rfl rfl rfl (by simp only [go_sem, ac] <;> rfl) ?_; refine SmG.nil (aa ?_); refine SmM.step hF [1] rfl (by kernel_rfl) rfl ⟨⟨_, rfl, ?_⟩, trivial⟩; refine gv hF (ae rfl rfl (eK rfl)) (SmG.nil (aa ?_)); exact r3_1
    ·refine gv hF (ae rfl rfl (eK rfl)) (SmG.nil (aa ?_)); refine SmM.step hF [0] rfl (by kernel_rfl) rfl ⟨⟨_, rfl, ?_⟩, trivial⟩; refine gv hF (ae rfl rfl (cI rfl)) (SmG.nil (aa ?_)); exact bA r3_0
   case h3_0 =>
    refine SmM.step hF [2] rfl (by kernel_rfl) rfl ⟨⟨_, rfl, ?_⟩, trivial⟩; refine SmG.store hF rfl rfl rfl rfl rfl (by simp only [go_sem, ac] <;> rfl) ?_; refine SmG.nil (aa ?_); exact bA r3_1
   case h3_1 =>
    refine SmM.step hF [3] rfl (by kernel_rfl) rfl ⟨⟨_, rfl, ?_⟩, trivial⟩; refine SmG.store hF rfl rfl rfl rfl rfl (by simp only [go_sem, ac] <;> rfl) ?_; refine SmG.nil (aa ?_); refine SmM.step hF [4] rfl (by kernel_rfl) rfl ⟨⟨_, rfl, ?_⟩, trivial⟩; refine gv hF oA (SmG.nil (aa ?_)); refine SmM.nil (by kernel_rfl) ?_; refine aa (Sm.ret ?_)
    skip
    exact th rfl rfl (cI rfl) (eK (R := ay sx.l) rfl) rfl (D.le.refl _)
end
section
theorem Vec.ext {n : Nat} : ∀ {a b : Vec n}, a.l = b.l -> a = b
 | ⟨_, _⟩, ⟨_, _⟩, h => by cases h; rfl
theorem qQ {α : Type} {a b : List α} {i : Nat} (hl : a.length = b.length) (h : ∀ j x y, j < i -> a[j]? = some x -> b[j]? = some y -> x = y) (hi : i = a.length) : a = b := by
 apply List.ext_getElem hl; intro j h1 h2; exact h j _ _ (by omega) (List.getElem?_eq_getElem h1) (List.getElem?_eq_getElem h2)
open Classical in
theorem EN (a b : zBz) (ha : a.length <= 4294967296) : dY a b = some (decide (a = b)) := by
 unfold dY; refine Ok.get ?_; refine Ok.cond (fun c => Ok.ret ?_) fun c => ?_
 ·have : a.length ≠ b.length := by simp at c; omega
  rw [eq_comm, decide_eq_false_iff_not]; intro e; subst e; exact this rfl
 have hl : a.length = b.length := by simp at c; omega
 refine Ok.bind (P := fun o => o = if a = b then .inl () else .inr false) ?_ ?_
 ·refine Ok.loop (fun s : Int => ∃ i : Nat, s = i /\ i <= a.length /\ ∀ j x y, j < i -> a[j]? = some x -> b[j]? = some y -> x = y) (fun s : Int => a.length - s.toNat) ⟨0, rfl, by omega, fun j x y h => by omega⟩ ?_; rintro _ ⟨i, rfl, h1, h2⟩; unfold bX; refine Ok.cond (fun c => ?_) fun c => Ok.ret ?_
  ·simp only [decide_eq_true_eq] at c; have hx : a[i]? = some (a[i]'(by omega)) := List.getElem?_eq_getElem _; have hy : b[i]? = some (b[i]'(by omega)) := List.getElem?_eq_getElem _; generalize a[i]'(by omega) = x at hx; generalize b[i]'(by omega) = y at hy; simp only [er, hx, hy, aq]; have hstop : x ≠ y -> (Sum.inr false : Unit ⊕ Bool) = if a = b then .inl () else .inr false := fun hne => by
    rw [if_neg]; intro e; subst e; rw [hx] at hy; exact hne (Option.some.inj hy)
   have hgo : x = y -> ∀ j x' y', j < i + 1 -> a[j]? = some x' -> b[j]? = some y' -> x' = y' := fun he j x' y' hj hx' hy' => by
    by_cases e : j = i
    ·subst e; rw [hx] at hx'; rw [hy] at hy'; cases hx'; cases hy'; exact he
    ·exact h2 j x' y' (by omega) hx' hy'
   refine Ok.cond (fun c2 => Ok.ret (hstop fun e => ?_)) fun c2 => ?_
   ·subst e; simp at c2
   ·rw [bQ (by omega), aq]; have he : x = y := by
     have : (x.toNat : Int) = y.toNat := by simpa using c2
     exact UInt8.toNat_inj.1 (by omega)
    exact Ok.ret ⟨⟨i + 1, by omega, by omega, hgo he⟩, by omega⟩
  ·simp only [decide_eq_false_iff_not] at c; rw [if_pos (qQ hl h2 (by omega))]
 ·rintro o rfl; by_cases e : a = b
  ·rw [if_pos e, decide_eq_true e]; exact Ok.ret rfl
  ·rw [if_neg e, decide_eq_false e]; exact Ok.ret rfl
theorem Ob.same {x y : Ob} : x.sum.l = y.sum.l /\ x.data = y.data ↔ x = y := by
 obtain ⟨a, b⟩ := x; obtain ⟨c, d⟩ := y; constructor
 ·rintro ⟨h1, h2⟩; rw [Vec.ext (a := a) (b := c) h1, show b = d from h2]
 ·intro h; cases h; exact ⟨rfl, rfl⟩
theorem xO (x : Ob) {l : Nat} {h : zHz} (hl : look h l = some ⟨33, [(Ob.row x).map V.d]⟩) : aX Tryd.prog h 30 (.ref l 0 32) = some (.d (.list 1 (x.data.map ai) false)) := by
 have hg : ((Ob.row x).map V.d)[32]? = some (.d (.list 1 (x.data.map ai) false)) := by
  simp [Ob.row, cQ x.sum.h]
 simp only [aX, hl, Option.bind_some, List.getElem?_cons_zero, cj, zk, hg]
open Classical in
theorem Ib (x y : Ob) (hx : x.data.length <= 4294967296) : aj Tryd.prog HG 34 [.agg 33 (Ob.row x), .agg 33 (Ob.row y)] (.v (.bool (decide (x = y)))) := by
 by_cases hs : x.sum.l = y.sum.l
 ·have hd : decide (x = y) = decide (x.data = y.data) := by
   rw [Bool.eq_iff_iff, decide_eq_true_eq, decide_eq_true_eq, <- Ob.same]; exact ⟨fun h => h.2, fun h => ⟨hs, h⟩⟩
  rw [hd]; refine aj.of Tryd.func34 rfl Tryd.ntmps34 (by simp) ?_; intro F hF h0 hT; simp only [List.zipIdx_cons, List.zipIdx_nil, List.map_cons, List.map_nil, Nat.zero_add, Nat.reduceAdd]; refine Sm.seq ?_; refine ab hF rfl ?_; refine SmG.new hF rfl rfl rfl (fb rfl rfl (by rfl)) ?_; refine SmG.new hF rfl rfl rfl (fb rfl rfl (by rfl)) ?_; refine gv hF oA (SmG.nil (aa (Sm.seq ?_))); simp only [Nat.zero_add, Nat.reduceAdd]; refine ab hF rfl ?_; refine gv hF (ag rfl rfl (by rfl)) ?_; refine gv hF (ae rfl rfl (lV (gu x) (jO x) rfl)) ?_; refine gv hF (ag rfl rfl (by rfl)) ?_; refine gv hF (ae rfl rfl (lV (gu y) (jO y) rfl)) ?_; refine gv hF (jP rfl rfl rfl ((rP x.sum.h y.sum.h).trans (by rw [decide_eq_true hs]))) ?_; refine gv hF oM ?_; refine gv hF (ag rfl rfl (by rfl)) ?_; refine SmG.v (x := .d (.list 1 (x.data.map ai) false)) hF rfl rfl rfl (ae rfl rfl (xO x rfl)) ?_; refine gv hF (ag rfl rfl (by rfl)) ?_; refine SmG.v (x := .d (.list 1 (y.data.map ai) false)) hF rfl rfl rfl (ae rfl rfl (xO y rfl)) ?_; refine SmG.call hF rfl rfl (by kernel_rfl) rfl rfl rfl (lQ (EN x.data y.data hx)) ?_; refine gv hF (aO rfl rfl rfl) ?_; refine gv hF oA (SmG.nil (aa (Sm.ret ?_))); exact ⟨_, rfl, D.le.refl _⟩
 ·have hd : decide (x = y) = false := by
   rw [decide_eq_false_iff_not, <- Ob.same]; exact fun h => hs h.1
  rw [hd]; refine aj.of Tryd.func34 rfl Tryd.ntmps34 (by simp) ?_; intro F hF h0 hT; simp only [List.zipIdx_cons, List.zipIdx_nil, List.map_cons, List.map_nil, Nat.zero_add, Nat.reduceAdd]; refine Sm.seq ?_; refine ab hF rfl ?_; refine SmG.new hF rfl rfl rfl (fb rfl rfl (by rfl)) ?_; refine SmG.new hF rfl rfl rfl (fb rfl rfl (by rfl)) ?_; refine gv hF oA (SmG.nil (aa (Sm.seq ?_))); simp only [Nat.zero_add, Nat.reduceAdd]; refine ab hF rfl ?_; refine gv hF (ag rfl rfl (by rfl)) ?_; refine gv hF (ae rfl rfl (lV (gu x) (jO x) rfl)) ?_; refine gv hF (ag rfl rfl (by rfl)) ?_; refine gv hF (ae rfl rfl (lV (gu y) (jO y) rfl)) ?_; refine gv hF (jP rfl rfl rfl ((rP x.sum.h y.sum.h).trans (by rw [decide_eq_false hs]))) ?_; refine gv hF oM ?_; refine gp hF ?_; refine gp hF ?_; refine gp hF ?_; refine gp hF ?_; refine gp hF ?_; refine gv hF (aU rfl rfl rfl) ?_; refine gv hF oA (SmG.nil (aa (Sm.ret ?_))); exact ⟨_, rfl, D.le.refl _⟩
open Classical in
noncomputable def AL : FnV Tryd.prog HG (α := Ob × Ob) (β := Bool) (fun x => [.agg 33 (Ob.row x.1), .agg 33 (Ob.row x.2)]) (fun y => .v (.bool y)) :=
 ⟨34, [], fun x => if x.1.data.length <= 4294967296 then some (decide (x.1 = x.2)) else none, by kernel_rfl, fun x y h => by
  by_cases hc : x.1.data.length <= 4294967296
  ·simp only [if_pos hc] at h; cases h; exact Ib x.1 x.2 hc
  ·simp only [if_neg hc] at h; cases h⟩
open Classical in
theorem uU (a b : List Ob) (ha : a.length <= 4294967296) (hd : ∀ x ∈ a, x.data.length <= 4294967296) : aH a b AL = some (decide (a = b)) := by
 unfold aH; refine Ok.get ?_; refine Ok.cond (fun c => Ok.ret ?_) fun c => ?_
 ·have : a.length ≠ b.length := by simp at c; omega
  rw [eq_comm, decide_eq_false_iff_not]; intro e; subst e; exact this rfl
 have hl : a.length = b.length := by simp at c; omega
 refine Ok.bind (P := fun o => o = if a = b then .inl () else .inr false) ?_ ?_
 ·refine Ok.loop (fun s : Int => ∃ i : Nat, s = i /\ i <= a.length /\ ∀ j x y, j < i -> a[j]? = some x -> b[j]? = some y -> x = y) (fun s : Int => a.length - s.toNat) ⟨0, rfl, by omega, fun j x y h => by omega⟩ ?_; rintro _ ⟨i, rfl, h1, h2⟩; unfold aA; refine Ok.cond (fun c => ?_) fun c => Ok.ret ?_
  ·simp only [decide_eq_true_eq] at c; have hx : a[i]? = some (a[i]'(by omega)) := List.getElem?_eq_getElem _; have hy : b[i]? = some (b[i]'(by omega)) := List.getElem?_eq_getElem _; generalize a[i]'(by omega) = x at hx; generalize b[i]'(by omega) = y at hy; simp only [er, hx, hy, aq]; have hstop : x ≠ y -> (Sum.inr false : Unit ⊕ Bool) = if a = b then .inl () else .inr false := fun hne => by
    rw [if_neg]; intro e; subst e; rw [hx] at hy; exact hne (Option.some.inj hy)
   have hgo : x = y -> ∀ j x' y', j < i + 1 -> a[j]? = some x' -> b[j]? = some y' -> x' = y' := fun he j x' y' hj hx' hy' => by
    by_cases e : j = i
    ·subst e; rw [hx] at hx'; rw [hy] at hy'; cases hx'; cases hy'; exact he
    ·exact h2 j x' y' (by omega) hx' hy'
   have hxd : x.data.length <= 4294967296 := hd x (List.mem_of_getElem? hx); show Ok (ob (if x.data.length <= 4294967296 then some (decide (x = y)) else none) _) _; rw [if_pos hxd, aq]; refine Ok.cond (fun c2 => Ok.ret (hstop fun e => ?_)) fun c2 => ?_
   ·subst e; simp at c2
   ·rw [bQ (by omega), aq]; have he : x = y := by simpa using c2
    exact Ok.ret ⟨⟨i + 1, by omega, by omega, hgo he⟩, by omega⟩
  ·simp only [decide_eq_false_iff_not] at c; rw [if_pos (qQ hl h2 (by omega))]
 ·rintro o rfl; by_cases e : a = b
  ·rw [if_pos e, decide_eq_true e]; exact Ok.ret rfl
  ·rw [if_neg e, decide_eq_false e]; exact Ok.ret rfl
end
section
theorem ke (l : List zBz) (hl : l.length <= 1000000) : cc Tryd.prog HG 46 [.list 1 (l.map av) false] .one 1 (l.map av) [] := by
 refine cc.of Tryd.func46 rfl Tryd.ntmps46 (by simp) ?_; intro F hF h0 hT; simp only [List.zipIdx_cons, List.zipIdx_nil, List.map_cons, List.map_nil, Nat.zero_add, Nat.reduceAdd]; refine Sm.seq ?_; refine ab hF rfl ?_; refine gv hF oA (SmG.nil (aa (Sm.seq (Sm.seq ?_)))); refine ab hF rfl ?_; refine gv hF oM ?_; refine xn hF rfl rfl rfl rfl rfl Tryd.underlying25 fun b hb => ?_
 refine SmG.nil (aa ?_); cases b
 ·refine aS hF rfl ?_; refine Sm.skip ?_; refine aa (Sm.seq ?_); refine ab hF rfl ?_; refine gv hF (bc rfl rfl (by simp only [go_sem] <;> rfl)) ?_; refine gv hF oM ?_; refine SmG.appendFresh hF tV rfl rfl rfl rfl rfl rfl (Or.inl rfl) (by simp; omega) (by simp; omega) ?_; refine gv hF oA (SmG.nil (aa (Sm.ret ?_))); exact ⟨0, rfl, rfl⟩
 ·have hn : l = [] := by simpa using hb rfl
  subst hn; refine aZ hF rfl ?_; refine Sm.seq ?_; refine ab hF rfl ?_; refine gv hF oA (SmG.nil (aa ?_)); refine Sm.own (t := 2) (sz := 0) 1 rfl ?_; refine Sm.ret ?_; simp only [ba, bR]; exact ⟨0, rfl, rfl⟩
open Classical in
noncomputable def dl (l : List zBz) : Option (List zBz) := if l.length <= 1000000 then some l else none
theorem kB {l r : List zBz} (h : dl l = some r) : cc Tryd.prog HG 46 [.list 1 (l.map av) false] .one 1 (r.map av) [] := by
 unfold dl at h; split at h
 ·cases h; exact ke l (by assumption)
 ·cases h
open Classical in
noncomputable def jl (rs : List zBz) : Option Sto := if rs.length <= 1000000 /\ ∀ b ∈ rs, b.length <= 1000000 then some (da [] [] rs) else none
theorem pB {rs : List zBz} {r : Sto} (h : jl rs = some r) : aj Tryd.prog HG 15 [.list 1 (rs.map av) false] (.agg 3 (Sto.row r)) := by
 unfold jl at h; split at h
 ·rename_i hc; cases h; exact KL rs hc.1 hc.2
 ·cases h
noncomputable def oo (x y : Ob) : Option Bool := AL.f (x, y)
theorem tt {x y : Ob} {r : Bool} (h : oo x y = some r) : aj Tryd.prog HG 34 [.agg 33 (Ob.row x), .agg 33 (Ob.row y)] (.v (.bool r)) := AL.ok (x, y) r h
noncomputable def fE (a0 : Sto) : Option Bool :=
 ob (bj [a0.safe, a0.queue]) fun x1 =>
 ob (jl x1) fun x2 =>
 bif ((x2.safe.length : Int) == (x1.length : Int)) then (
  ob (aH x2.objects a0.objects (⟨34, [], fun x => oo x.1 x.2 , by kernel_rfl, fun x y h => tt h⟩ : (FnV Tryd.prog HG (α := Ob × Ob) (β := Bool) (fun x => [.agg 33 (Ob.row x.1), .agg 33 (Ob.row x.2)]) (fun y => .v (.bool y))))) fun x4 =>
  some x4
 ) else (
  some false
 )
set_option maxHeartbeats 4000000 in
theorem uZ {a0 : Sto} {r : Bool} (h : fE a0 = some r) : aj Tryd.prog HG 14 [.agg 3 (Sto.row a0)] (.v (.bool r)) := by
 unfold fE at h; refine aj.of Tryd.func14 rfl Tryd.ntmps14 (by simp) ?_; intro F hF h0 hT; show Sm F _ _ ⟨[(0, .d (.agg 3 (Sto.row a0)))], [], 0⟩; refine sr hF ?_; refine pT hF Gs ?_; refine gv hF oA (sn (sr hF (gv hF (oF (gt zP rfl)) (gv hF (oL (lP1 pY rfl)) (gv hF (oF (gt EU rfl)) (gv hF (oL (lP1 pY rfl)) (gv hF (x := .d (.list 1 ([a0.safe, a0.queue].map (kG 1 av)) true)) (oS (me u98 DX Lw rfl rfl (PartsQ.cons rfl (PartsQ.cons rfl (PartsQ.nil _))) rfl)) ?_))))))); obtain ⟨x1, hx1, h⟩ := ap h; refine SmG.callO hF rfl rfl (by kernel_rfl) rfl rfl rfl (cc.args (fQ hx1) (fun C => (oE (fun _ h => h)))) ?_; refine gv hF oA (sn (sr hF (gv hF oM ?_))); refine wl (aR (kA (e := [(1, .d (.ptr 3 (Sto.row a0))), (3, .sref 0 0 (x1.map av).length), (12, .sref 0 0 (x1.map av).length)]) (g := [(0, dB 1 (x1.map av))]) (m := 1)) (fA (l := 0) (sz := 1) (e := [(1, .d (.ptr 3 (Sto.row a0))), (3, .d (.list 1 (x1.map av) false)), (12, .d (.list 1 (x1.map av) false))]) (g := []) (nx := 1) (x1.map av))) rfl ?_; obtain ⟨x2, hx2, h⟩ := ap h; refine cS hF (pB hx2) ?_; refine SmG.new hF rfl rfl rfl (aF rfl mz) ?_; refine SmG.store hF rfl rfl rfl rfl rfl (xg (ys := [.d (.list 33 (x2.objects.map Ob.row) false), .d (.list 1 (x2.safe.map av) false), .d (.list 1 (x2.queue.map av) false)]) (r := [.z, .z, .z]) (rows' := [[.d (.list 33 (x2.objects.map Ob.row) false), .d (.list 1 (x2.safe.map av) false), .d (.list 1 (x2.queue.map av) false)]]) rfl rfl rfl iN rfl rfl rfl rfl rfl) ?_; refine sn (sr hF (gv hF oA (sn (sr hF (gv hF (oF (mU zP)) (gv hF (oL (Ff rfl rfl pY rfl)) (gv hF (oN (eJ u25)) (gv hF oM ?_)))))))); refine gv hF (oN (eJ u25)) (gv hF (oB (LL)) ?_); rcases BP ((x2.safe.length : Int) == (x1.length : Int)) with hc3 | hc3
 ·replace h := ifF hc3 h; refine gv hF (oJ rfl rfl hc3) (gp hF (gp hF (gp hF (gp hF (gp hF (gp hF (gv hF (aU rfl rfl rfl) (gv hF oA ?_)))))))); refine sn (Sm.ret ?_); obtain rfl := aW h; exact lD rfl rfl
 replace h := ifT hc3 h; refine gv hF (oJ rfl rfl hc3) (gv hF (oF (mU ET)) (gv hF (oL (Ff rfl rfl tP rfl)) (gv hF (oF (gt ET rfl)) (gv hF (oL (lP1 tP rfl)) (gv hF oM ?_))))); obtain ⟨x4, hx4, h⟩ := ap h; refine cS hF (dK hx4) ?_; refine gv hF (aO rfl rfl rfl) (gv hF oA (sn (Sm.ret ?_))); obtain rfl := aW h; exact lD rfl rfl
noncomputable def ed (a0 : Sto) (a1 : List Bool) (s2 : (Int × (List zBz))) : Option ((Int × (List zBz)) ⊕ List zBz) :=
 bif (decide (s2.1 < (a0.queue.length : Int))) then (
  ob ((
   ob (idx a0.queue s2.1) fun x7 =>
   bif (decide (s2.1 < (a1.length : Int))) then (
    ob (idx a1 s2.1) fun x9 =>
    bif x9 then (
     ob (app s2.2 [x7]) fun x11 =>
     some x11
    ) else (
     some s2.2
    )
   ) else (
    some s2.2
   )
   : Option (List zBz))) fun v12 =>
  ob (arI .i64 (s2.1 + 1)) fun x13 =>
  some (.inl (x13, v12))
 ) else (
  some (.inr s2.2)
 )
noncomputable def iU (a0 : Sto) (a1 : List Bool) : Option Sto :=
 ob (dl a0.safe) fun x1 =>
 ob ((
  cP (ed a0 a1) (0, x1)
  : Option (List zBz))) fun v14 =>
 ob (jl v14) fun x15 =>
 some x15
set_option maxHeartbeats 4000000 in
theorem uV {a0 : Sto} {a1 : List Bool} {r : Sto} (h : iU a0 a1 = some r) : aj Tryd.prog HG 25 [.agg 3 (Sto.row a0), .list 1 (a1.map oK) false] (.agg 3 (Sto.row r)) := by
 unfold iU at h; refine aj.of Tryd.func25 rfl Tryd.ntmps25 (by simp) ?_; intro F hF h0 hT; show Sm F _ _ ⟨[(0, .d (.agg 3 (Sto.row a0))), (1, .d (.list 1 (a1.map oK) false))], [], 0⟩; refine sr hF ?_; refine pT hF Gs ?_; refine SmG.new hF rfl rfl rfl (aF rfl mz) ?_; refine sn (sr hF (gv hF (oF (gt zP rfl)) (gv hF (oL (lP1 pY rfl)) ?_))); obtain ⟨x1, hx1, h⟩ := ap h; refine SmG.callO hF rfl rfl (by kernel_rfl) rfl rfl rfl (kB hx1) ?_; refine gv hF oA (sn (Sm.seq ?_)); obtain ⟨v14, hv14, h⟩ := ap h; refine iu ⟨[(4, .ref 0 0 0), (5, .sref 1 0 (v14.map av).length)], [(1, dB 1 (v14.map av)), (0, ⟨3, [[.z, .z, .z]]⟩)], 2⟩ ?_ ?_
 ·refine Sm.seq ?_; refine ab hF rfl ?_; refine gv hF oM ?_; refine wl (aR (kA (e := [(4, .ref 0 0 0), (34, .sref 1 0 (v14.map av).length)]) (g := [(1, dB 1 (v14.map av)), (0, ⟨3, [[.z, .z, .z]]⟩)]) (m := 2)) (fA (l := 1) (sz := 1) (e := [(4, .ref 0 0 0), (34, .d (.list 1 (v14.map av) false))]) (g := [(0, ⟨3, [[.z, .z, .z]]⟩)]) (nx := 2) (v14.map av))) rfl ?_; obtain ⟨x15, hx15, h⟩ := ap h; refine cS hF (pB hx15) ?_; refine SmG.store hF rfl rfl rfl rfl rfl (xg (ys := [.d (.list 33 (x15.objects.map Ob.row) false), .d (.list 1 (x15.safe.map av) false), .d (.list 1 (x15.queue.map av) false)]) (r := [.z, .z, .z]) (rows' := [[.d (.list 33 (x15.objects.map Ob.row) false), .d (.list 1 (x15.safe.map av) false), .d (.list 1 (x15.queue.map av) false)]]) rfl rfl rfl iN rfl rfl rfl rfl rfl) ?_; refine sn (Sm.ret ?_); obtain rfl := aW h; exact tg (RetR.cons (RetO.cell rfl (KD (ds := [.list 33 (x15.objects.map Ob.row) false, .list 1 (x15.safe.map av) false, .list 1 (x15.queue.map av) false]) rfl rfl oY iN rfl rfl)) (RetR.nil)) (D.le.refl _)
 replace h := hv14; refine sr hF (gv hF (oF (gt EU rfl)) (gv hF (oL (lP1 pY rfl)) (gv hF (oN (eJ u25)) (gv hF oM (sn (Sm.block ?_)))))); refine eE (ed a0 a1) (fun s2 => ⟨[(1, .d (.list 1 (a1.map oK) false)), (4, .ref 0 0 0), (5, .sref 1 0 (s2.2.map av).length), (12, .d (.list 1 (a0.queue.map av) false)), (13, .i (a0.queue.length : Int)), (14, .i s2.1)], [(1, dB 1 (s2.2.map av)), (0, ⟨3, [[.z, .z, .z]]⟩)], 2⟩) (0, x1) h (kA) ?_; intro n3 s2 o4 h hd5; unfold ed at h; refine sr hF (gv hF (oB (gb)) (sn (Sm.seq ?_))); refine cN hF rfl (fun hc6 => ?_) (fun hc6 => ?_)
 ·replace h := ifF hc6 h; refine Sm.exit ?_; replace h := bV h hd5; obtain rfl := aW h; exact (kA)
 replace h := ifT hc6 h; refine sk (Sm.seq ?_); obtain ⟨v12, hv12, h⟩ := ap h; refine iu ⟨[(1, .d (.list 1 (a1.map oK) false)), (4, .ref 0 0 0), (5, .sref 1 0 (v12.map av).length), (12, .d (.list 1 (a0.queue.map av) false)), (13, .i (a0.queue.length : Int)), (14, .i s2.1)], [(1, dB 1 (v12.map av)), (0, ⟨3, [[.z, .z, .z]]⟩)], 2⟩ ?_ ?_
 ·refine ab hF rfl ?_; obtain ⟨x13, hx13, h⟩ := ap h; refine gv hF (oB (dX hx13)) (gv hF oM (SmG.nil ?_)); exact eZ (dN h hd5) (kA)
 replace h := hv12; refine Sm.block (sr hF (gv hF oM ?_)); obtain ⟨x7, hx7, h⟩ := ap h; refine gv hF (oI (eI u25 AP hx7)) (gv hF (oL (lP1 zk rfl)) (gv hF oA (gv hF oA (sn (sr hF (gv hF oM (gv hF oM (gv hF (oN (eJ u31)) ?_)))))))); refine gv hF (oB (gb)) ?_; rcases BP (decide (s2.1 < (a1.length : Int))) with hc8 | hc8
 ·replace h := ifF hc8 h; refine gv hF (oJ rfl rfl hc8) (gp hF (gp hF (gp hF (gp hF (gv hF (aU rfl rfl rfl) (sn ?_)))))); refine aS hF rfl ?_; refine Sm.skip ?_; refine aI ?_; obtain rfl := aW h; exact (kA)
 replace h := ifT hc8 h; refine gv hF (oJ rfl rfl hc8) (gv hF oM (gv hF oM ?_)); obtain ⟨x9, hx9, h⟩ := ap h; refine gv hF (oI (eI u31 sz4 hx9)) (gv hF (oL (lP1 ag4 rfl)) (gv hF (aO rfl rfl rfl) (sn ?_))); refine cN hF rfl (fun hc10 => ?_) (fun hc10 => ?_)
 ·replace h := ifF hc10 h; refine Sm.skip ?_; refine aI ?_; obtain rfl := aW h; exact (kA)
 replace h := ifT hc10 h; refine ab hF rfl ?_; refine gv hF oM (gv hF oM (gv hF (x := .d (.list 1 ([x7].map av) true)) (oS (me u25 AP Ly rfl rfl (PartsQ.cons rfl (PartsQ.nil _)) rfl)) ?_)); obtain ⟨x11, hx11, h⟩ := ap h; refine gT hF tV rfl (ys := [x7]) (row := av) rfl rfl rfl rfl rfl rfl rfl rfl (.inl rfl) hx11 (by (repeat' first | exact mu _ | refine lq ?_ | refine cW ?_ (iZ _ _ _) | refine cW ?_ (iZ _ _ [_]) | refine cW ?_ (nG (by rfl)))) ?_; refine gv hF oA (SmG.nil (aI ?_)); obtain rfl := aW h; exact (kA)
end
end Go.Proofs.YtaclinnjekdgoaaDoor
