/- The functions of Go's library that chapter 01 comes to, as the machine calls them. -/
import Derived.Test.YtnoambiapjemlaaDoorVmGJ
import Derived.Test.YtnoambiapjemlaaDoorVlS
import Derived.Test.YtnoambiapjemlaaDoorChecked
import Derived.Lib.AppendIntMem
import Derived.Lib.AtoiErrMem
set_option linter.unusedVariables false
set_option maxRecDepth 100000
namespace Go.Vm
open Go.Proofs Go.RowKit

def cmpX : List PV → Option PV
  | [.s (.str a), .s (.str b)] => some (.i64 (Lib.compareBytes a b))
  | _ => none
def hasX : List PV → Option PV
  | [.s (.str a), .s (.str [c])] => some (.bool (decide (0 ≤ Lib.indexByte a c)))
  | _ => none
def replX : List PV → Option PV
  | [.s (.str s), .s (.str old), .s (.str new)] => if s.length < 4294967281 ∧ 1 ≤ old.length ∧ s.length + Lib.countB ⟨⟨s⟩⟩ ⟨⟨old⟩⟩ * new.length ≤ 140737488355328 then some (.str (Lib.replaceAll s old new)) else none
  | _ => none
def trimX : List PV → Option PV
  | [.s (.str s), .s (.str cs)] => if s.length ≤ 9223372036854775807 ∧ cs.length < 4294967281 ∧ cs.all (fun b => decide (b.toNat < 128)) = true then some (.str (Lib.trimS s cs)) else none
  | _ => none
def fmtX : List PV → Option PV
  | [.s (.int .i64 n), .s (.int .i64 b)] => if b = 10 ∧ -9223372036854775808 ≤ n ∧ n ≤ 9223372036854775807 then some (.str (Lib.itoa n)) else none
  | _ => none
/-- An error that nobody looks into. -/
def errP : PV := .iface 91 (.eptr [] 0 0)
def parV (l : List UInt8) : PV :=
  match Lib.parseIntB 64 l with
  | .ok v => .tuple [.i64 v, .s .nili]
  | .range => .tuple [.i64 (Lib.intSat 64 l), errP]
  | _ => .tuple [.i64 0, errP]
def parX : List PV → Option PV
  | [.s (.str l), .s (.int .i64 b), .s (.int .i64 z)] => if b = 10 ∧ z = 64 ∧ l.length ≤ 281474976710656 then some (parV l) else none
  | _ => none
def extL (f : FuncId) : Option (List PV → Option PV) :=
  if f = 31 then some parX else if f = 34 then some fmtX else if f = 35 then some replX else if f = 49 then some hasX else if f = 51 then some trimX else if f = 59 then some cmpX else none

theorem arg2 {C : Cx} {a b : PV} {vals : Array Value} (h : ArgRel C [a, b] vals) : ∃ u v, vals = #[u, v] ∧ PRel C a u ∧ PRel C b v := by
  obtain ⟨hs, hr⟩ := h
  obtain ⟨l⟩ := vals
  match l, hs with
  | [u, v], _ => exact ⟨u, v, rfl, hr 0 _ rfl, hr 1 _ rfl⟩
theorem arg3 {C : Cx} {a b c : PV} {vals : Array Value} (h : ArgRel C [a, b, c] vals) : ∃ u v x, vals = #[u, v, x] ∧ PRel C a u ∧ PRel C b v ∧ PRel C c x := by
  obtain ⟨hs, hr⟩ := h
  obtain ⟨l⟩ := vals
  match l, hs with
  | [u, v, x], _ => exact ⟨u, v, x, rfl, hr 0 _ rfl, hr 1 _ rfl, hr 2 _ rfl⟩
theorem prel_str {C : Cx} {l : List UInt8} {u : Value} (h : PRel C (.s (.str l)) u) : u = .string ⟨⟨l⟩⟩ := by
  cases h with
  | s p v hs => cases hs; rfl
theorem prel_int {C : Cx} {k : IntKind} {n : Int} {u : Value} (h : PRel C (.s (.int k n)) u) : u = .int k n := by
  cases h with
  | s p v hs => cases hs; rfl
theorem ext_fin {P : Program} {F : FuncId} {w0 w : World} {C : Cx} {vals : Array Value} {v : PV} (hR : Rel w0 C w)
    (hc : Calls P F vals w fun e w' => ∃ u, e = .returned u ∧ PRel C v u ∧ Below w.heap.size w w') :
    Calls P F vals w fun e w' => ∃ C', C'.H = C.H ∧ Rel w0 C' w' ∧ Ext C w C' w' ∧ OutRel C' (.ret v) e := by
  refine hc.mono fun e w' ⟨u, he, hu, hb⟩ => ?_
  obtain ⟨g1, g2⟩ := rel_below hR hb
  subst he
  exact ⟨C, rfl, g1, g2, hu⟩
/-- What the library's functions look at among the package-level variables. -/
structure Glob (W : World) : Prop where
  m : ∃ m, W.cell? ⟨0, 0, none⟩ = some (.int .i64 m)
  e1 : ∃ te pe, W.cell? ⟨1, 0, none⟩ = some (.iface te pe)
  e2 : ∃ te pe, W.cell? ⟨2, 0, none⟩ = some (.iface te pe)
  tab : Lib.TabIs Tryd.prog W "internal/strconv.uint64pow10" .u64 Lib.pow10Tab
  size : 4 ≤ W.heap.size
theorem Glob.at_ {W w : World} {C : Cx} (h : Glob W) (hR : Rel W C w) : Glob w := by
  obtain ⟨⟨m, hm⟩, ⟨t1, p1, h1⟩, ⟨t2, p2, h2⟩, htab, hsz⟩ := h
  have hb := hR.below
  refine ⟨⟨m, by rw [hb.cell (by show 0 < _; omega)]; exact hm⟩, ⟨t1, p1, by rw [hb.cell (by show 1 < _; omega)]; exact h1⟩, ⟨t2, p2, by rw [hb.cell (by show 2 < _; omega)]; exact h2⟩, ?_, Nat.le_trans hsz hb.size⟩
  unfold Lib.TabIs World.var? at htab ⊢
  have hg : Tryd.prog.globalNamed "internal/strconv.uint64pow10" = some 3 := by kernel_rfl
  rw [hg] at htab ⊢
  simp only [Option.bind_some] at htab ⊢
  rw [hb.block 3 (by omega)]
  exact htab
theorem par_ok {P : Program} {w0 w : World} {C : Cx} (hg : Glob w) (hR : Rel w0 C w) (l : List UInt8) (hl : l.length ≤ 281474976710656) :
    Calls Tryd.prog 31 #[.string ⟨⟨l⟩⟩, .int .i64 10, .int .i64 64] w fun e w' => ∃ u, e = .returned u ∧ PRel C (parV l) u ∧ Below w.heap.size w w' := by
  have herr : ∀ (n : Int) (N : Nat), PRel C (.tuple [.i64 n, errP]) (.tuple #[.int .i64 n, .iface 91 (.pointer (some ⟨N, 0, none⟩))]) := by
    intro n N
    refine .tuple _ _ rfl ?_
    intro i p hi
    match i, hi with
    | 0, hi => injection hi with hi; subst hi; exact .s _ _ (.int _ _)
    | 1, hi =>
      injection hi with hi
      subst hi
      exact .iface _ _ _ (.eptr [] 0 0 ⟨N, 0, none⟩ 0 (fun _ _ => .nilIface) (fun c hc => by cases hc) (fun h => absurd rfl h) (fun i c j p hi _ => by simp at hi) (fun i c j p hi _ => by simp at hi))
  unfold parV
  cases hq : Lib.parseIntB 64 l with
  | ok v =>
    refine (Tryd.strconv_ParseInt_10_at64_ok ⟨⟨l⟩⟩ (by show l.length ≤ _; omega) v hq w).mono fun e w' ⟨he, hw⟩ => ⟨_, he, ?_, ?_⟩
    · refine .tuple _ _ rfl ?_
      intro i p hi
      match i, hi with
      | 0, hi => injection hi with hi; subst hi; exact .s _ _ (.int _ _)
      | 1, hi => injection hi with hi; subst hi; exact .s _ _ .nili
    · rcases hw with rfl | ⟨t, rfl⟩
      · exact Below.refl _ _
      · exact Lib.bytesWorld_below _ _ _
  | range =>
    obtain ⟨te, pe, h2⟩ := hg.e2
    refine (Tryd.strconv_ParseInt_10_at64_range ⟨⟨l⟩⟩ hl hq _ w h2 (.inr ⟨te, pe, rfl⟩)).mono fun e w' ⟨N, he, _, _, hb⟩ => ⟨_, he, herr _ N, hb⟩
  | _ =>
    obtain ⟨te, pe, h1⟩ := hg.e1
    refine (Any.strconv_ParseInt_10_at64_syntax Tryd.laysC174 ⟨⟨l⟩⟩ hl hq _ w h1 (.inr ⟨te, pe, rfl⟩)).mono fun e w' ⟨N, he, _, _, hb⟩ => ⟨_, he, herr _ N, hb⟩
theorem z116 : (Tryd.prog.info? (Tryd.lays160_ren.t 116)).map (fun i => (i.zero, i.size)) = some (some (.agg (Array.replicate 256 (.bool false))), 256) := by kernel_rfl
theorem extOk01 {E : Env} (hE : E.P = Tryd.prog) (hx : E.ext = extL) {W : World} (hg : Glob W) : ExtOk E W (fixOf W) := by
  intro f g args v hf hv
  rw [hE]
  rw [hx] at hf
  unfold extL at hf
  split at hf
  · rename_i e; subst e
    injection hf with hf; subst hf
    refine ⟨⟨Tryd.f31, Tryd.func31, by kernel_rfl, by kernel_rfl⟩, fun C w vals hR _ ha => ?_⟩
    unfold parX at hv
    split at hv
    · split at hv
      · rename_i l b z hc
        obtain ⟨rfl, rfl, hl⟩ := hc
        injection hv with hv; subst hv
        obtain ⟨u, v, x, rfl, r0, r1, r2⟩ := arg3 ha
        rw [prel_str r0, prel_int r1, prel_int r2]
        exact ext_fin hR (par_ok (P := Tryd.prog) (hg.at_ hR) hR l hl)
      · cases hv
    · cases hv
  split at hf
  · rename_i e; subst e
    injection hf with hf; subst hf
    refine ⟨⟨Tryd.f34, Tryd.func34, by kernel_rfl, by kernel_rfl⟩, fun C w vals hR _ ha => ?_⟩
    unfold fmtX at hv
    split at hv
    · split at hv
      · rename_i n b hc
        obtain ⟨rfl, h0, h1⟩ := hc
        injection hv with hv; subst hv
        obtain ⟨u, v, rfl, r0, r1⟩ := arg2 ha
        rw [prel_int r0, prel_int r1]
        refine ext_fin hR ((Tryd.strconv_FormatInt_10 n h0 h1 w (hg.at_ hR).tab).mono fun e w' ⟨he, k, os, hw⟩ => ⟨_, he, .s _ _ (.str _), ?_⟩)
        rw [hw]
        exact Lib.below_grow _ _ (Nat.le_refl _) _ _
      · cases hv
    · cases hv
  split at hf
  · rename_i e; subst e
    injection hf with hf; subst hf
    refine ⟨⟨Tryd.f35, Tryd.func35, by kernel_rfl, by kernel_rfl⟩, fun C w vals hR _ ha => ?_⟩
    unfold replX at hv
    split at hv
    · split at hv
      · rename_i s old new hc
        obtain ⟨h0, h1, h2⟩ := hc
        injection hv with hv; subst hv
        obtain ⟨u, v, x, rfl, r0, r1, r2⟩ := arg3 ha
        rw [prel_str r0, prel_str r1, prel_str r2]
        obtain ⟨m, hm⟩ := (hg.at_ hR).m
        exact ext_fin hR ((Tryd.strings_ReplaceAll ⟨⟨s⟩⟩ ⟨⟨old⟩⟩ ⟨⟨new⟩⟩ m w h0 hm h1 h2).mono fun e w' ⟨he, hb⟩ => ⟨_, he, .s _ _ (.str _), hb⟩)
      · cases hv
    · cases hv
  split at hf
  · rename_i e; subst e
    injection hf with hf; subst hf
    refine ⟨⟨Tryd.f49, Tryd.func49, by kernel_rfl, by kernel_rfl⟩, fun C w vals hR _ ha => ?_⟩
    unfold hasX at hv
    split at hv
    · rename_i s c
      injection hv with hv; subst hv
      obtain ⟨u, v, rfl, r0, r1⟩ := arg2 ha
      rw [prel_str r0, prel_str r1]
      refine ext_fin hR ((Tryd.strings_Contains_one ⟨⟨s⟩⟩ c w).mono fun e w' ⟨he, hb⟩ => ⟨_, he, .s _ _ (.bool _), ?_⟩)
      rw [hb]; exact Below.refl _ _
    · cases hv
  split at hf
  · rename_i e; subst e
    injection hf with hf; subst hf
    refine ⟨⟨Tryd.f51, Tryd.func51, by kernel_rfl, by kernel_rfl⟩, fun C w vals hR _ ha => ?_⟩
    unfold trimX at hv
    split at hv
    · split at hv
      · rename_i s cs hc
        obtain ⟨h0, h1, h2⟩ := hc
        injection hv with hv; subst hv
        obtain ⟨u, v, rfl, r0, r1⟩ := arg2 ha
        rw [prel_str r0, prel_str r1]
        exact ext_fin hR ((Any.strings_Trim_laid Tryd.lays160 z116 ⟨⟨s⟩⟩ ⟨⟨cs⟩⟩ w h0 h1 (ascii_of_all h2)).mono fun e w' ⟨he, hb⟩ => ⟨_, he, .s _ _ (.str _), hb⟩)
      · cases hv
    · cases hv
  split at hf
  · rename_i e; subst e
    injection hf with hf; subst hf
    refine ⟨⟨Tryd.f59, Tryd.func59, by kernel_rfl, by kernel_rfl⟩, fun C w vals hR _ ha => ?_⟩
    unfold cmpX at hv
    split at hv
    · rename_i a b
      injection hv with hv; subst hv
      obtain ⟨u, v, rfl, r0, r1⟩ := arg2 ha
      rw [prel_str r0, prel_str r1]
      refine ext_fin hR ((Tryd.bytealg_CompareString ⟨⟨a⟩⟩ ⟨⟨b⟩⟩ w).mono fun e w' ⟨he, hb⟩ => ⟨_, he, .s _ _ (.int _ _), ?_⟩)
      rw [hb]; exact Below.refl _ _
    · cases hv
  · cases hf
end Go.Vm
