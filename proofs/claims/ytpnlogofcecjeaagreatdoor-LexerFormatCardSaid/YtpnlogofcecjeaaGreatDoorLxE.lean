/- The functions of Go's library that chapter 23 comes to, and the program's 'symbol', as the machine calls them. -/
import Derived.Test.YtpnlogofcecjeaaGreatDoorVmGJ
import Derived.Test.YtpnlogofcecjeaaGreatDoorLxS
import Derived.Test.YtpnlogofcecjeaaGreatDoorLxJ
import Derived.Test.YtpnlogofcecjeaaGreatDoorChecked
import Derived.Lib.AppendIntMem
import Derived.Lib.AtoiErrMem
set_option linter.unusedVariables false
set_option linter.unusedSimpArgs false
set_option maxRecDepth 100000
namespace Go.Vm
open Go.Proofs Go.RowKit

def replX : List PV → Option PV
  | [.s (.str s), .s (.str old), .s (.str new)] => if s.length < 4294967281 ∧ 1 ≤ old.length ∧ s.length + Lib.countB ⟨⟨s⟩⟩ ⟨⟨old⟩⟩ * new.length ≤ 140737488355328 then some (.str (Lib.replaceAll s old new)) else none
  | _ => none
/-- An error that nobody looks into. -/
def errP : PV := .iface 103 (.eptr [] 0 0)
def parV (l : List UInt8) : PV :=
  match Lib.parseIntB 64 l with
  | .ok v => .tuple [.i64 v, .s .nili]
  | .range => .tuple [.i64 (Lib.intSat 64 l), errP]
  | _ => .tuple [.i64 0, errP]
def parX : List PV → Option PV
  | [.s (.str l), .s (.int .i64 b), .s (.int .i64 z)] => if b = 10 ∧ z = 64 ∧ l.length ≤ 281474976710656 then some (parV l) else none
  | _ => none
def txRow (s : List UInt8) : List SV := [.str s]
def fldX : List PV → Option PV
  | [.s (.str l)] => if l.length < 4294967281 ∧ (Lib.fields l).length ≤ 4294967296 ∧ l.all (fun b => decide (b.toNat < 128)) = true then some (.s (.slice ((Lib.fields l).map txRow) true)) else none
  | _ => none
/-- The symbols, the last one first. -/
def symL : List (List UInt8) := [[124, 124], [62, 61], [62], [61], [60, 62], [60, 61], [60], [59], [46], [45], [44], [43], [42], [41], [40]]
def symF (s : List UInt8) : Option (List UInt8) := symL.find? fun p => p.isPrefixOf s
def symV (s : List UInt8) : PV :=
  match symF s with
  | some x => .st [.int .i64 4, .int .i64 0, .str x, .int .i64 x.length, .int .i64 (-1)]
  | none => .st [.int .i64 0, .int .i64 0, .str [], .int .i64 0, .int .i64 (-1)]
def symX : List PV → Option PV
  | [.s (.str s)] => some (symV s)
  | _ => none
def extL (f : FuncId) : Option (List PV → Option PV) :=
  if f = 52 then some parX else if f = 40 then some replX else if f = 41 then some fldX else if f = 32 then some symX else if f = 42 then some joinX else none

theorem arg1 {C : Cx} {a : PV} {vals : Array Value} (h : ArgRel C [a] vals) : ∃ u, vals = #[u] ∧ PRel C a u := by
  obtain ⟨hs, hr⟩ := h
  obtain ⟨l⟩ := vals
  match l, hs with
  | [u], _ => exact ⟨u, rfl, hr 0 _ rfl⟩
theorem arg3 {C : Cx} {a b c : PV} {vals : Array Value} (h : ArgRel C [a, b, c] vals) : ∃ u v x, vals = #[u, v, x] ∧ PRel C a u ∧ PRel C b v ∧ PRel C c x := by
  obtain ⟨hs, hr⟩ := h
  obtain ⟨l⟩ := vals
  match l, hs with
  | [u, v, x], _ => exact ⟨u, v, x, rfl, hr 0 _ rfl, hr 1 _ rfl, hr 2 _ rfl⟩
theorem prel_str {C : Cx} {l : List UInt8} {u : Value} (h : PRel C (.s (.str l)) u) : u = .string ⟨⟨l⟩⟩ := by
  cases h with
  | s p v hs => cases hs; rfl
theorem prel_int {C : Cx} {k : IntKind} {n : Int} {u : Value} (h : PRel C (.s (.int k n)) u) : u = .int k n := by
  cases h with
  | s p v hs => cases hs; rfl
theorem ext_fin {P : Program} {F : FuncId} {w0 w : World} {C : Cx} {vals : Array Value} {v : PV} (hR : Rel w0 C w)
    (hc : Calls P F vals w fun e w' => ∃ u, e = .returned u ∧ PRel C v u ∧ Below w.heap.size w w') :
    Calls P F vals w fun e w' => ∃ C', C'.H = C.H ∧ Rel w0 C' w' ∧ Ext C w C' w' ∧ OutRel C' (.ret v) e := by
  refine hc.mono fun e w' ⟨u, he, hu, hb⟩ => ?_
  obtain ⟨g1, g2⟩ := rel_below hR hb
  subst he
  exact ⟨C, rfl, g1, g2, hu⟩
/-- What the library's functions look at among the package-level variables. -/
structure Glob (W : World) : Prop where
  m : ∃ m, W.cell? ⟨4, 0, none⟩ = some (.int .i64 m)
  e1 : ∃ te pe, W.cell? ⟨2, 0, none⟩ = some (.iface te pe)
  e2 : ∃ te pe, W.cell? ⟨3, 0, none⟩ = some (.iface te pe)
  tab : Lib.TabIs Tryz.prog W "strings.asciiSpace" .u8 Lib.asciiSpaceTab
  size : 8 ≤ W.heap.size
theorem Glob.at_ {W w : World} {C : Cx} (h : Glob W) (hR : Rel W C w) : Glob w := by
  obtain ⟨⟨m, hm⟩, ⟨t1, p1, h1⟩, ⟨t2, p2, h2⟩, htab, hsz⟩ := h
  have hb := hR.below
  refine ⟨⟨m, by rw [hb.cell (by show 4 < _; omega)]; exact hm⟩, ⟨t1, p1, by rw [hb.cell (by show 2 < _; omega)]; exact h1⟩, ⟨t2, p2, by rw [hb.cell (by show 3 < _; omega)]; exact h2⟩, ?_, Nat.le_trans hsz hb.size⟩
  unfold Lib.TabIs World.var? at htab ⊢
  have hg : Tryz.prog.globalNamed "strings.asciiSpace" = some 0 := by kernel_rfl
  rw [hg] at htab ⊢
  simp only [Option.bind_some] at htab ⊢
  rw [hb.block 0 (by omega)]
  exact htab
theorem par_ok {w0 w : World} {C : Cx} (hg : Glob w) (hR : Rel w0 C w) (l : List UInt8) (hl : l.length ≤ 281474976710656) :
    Calls Tryz.prog 52 #[.string ⟨⟨l⟩⟩, .int .i64 10, .int .i64 64] w fun e w' => ∃ u, e = .returned u ∧ PRel C (parV l) u ∧ Below w.heap.size w w' := by
  have herr : ∀ (n : Int) (N : Nat), PRel C (.tuple [.i64 n, errP]) (.tuple #[.int .i64 n, .iface 103 (.pointer (some ⟨N, 0, none⟩))]) := by
    intro n N
    refine .tuple _ _ rfl ?_
    intro i p hi
    match i, hi with
    | 0, hi => injection hi with hi; subst hi; exact .s _ _ (.int _ _)
    | 1, hi =>
      injection hi with hi
      subst hi
      exact .iface _ _ _ (.eptr [] 0 0 ⟨N, 0, none⟩ 0 (fun _ _ => .nilIface) (fun c hc => by cases hc) (fun h => absurd rfl h) (fun i c j p hi _ => by simp at hi) (fun i c j p hi _ => by simp at hi))
  unfold parV
  cases hq : Lib.parseIntB 64 l with
  | ok v =>
    refine (Tryz.strconv_ParseInt_10_at64_ok ⟨⟨l⟩⟩ (by show l.length ≤ _; omega) v hq w).mono fun e w' ⟨he, hw⟩ => ⟨_, he, ?_, ?_⟩
    · refine .tuple _ _ rfl ?_
      intro i p hi
      match i, hi with
      | 0, hi => injection hi with hi; subst hi; exact .s _ _ (.int _ _)
      | 1, hi => injection hi with hi; subst hi; exact .s _ _ .nili
    · rcases hw with rfl | ⟨t, rfl⟩
      · exact Below.refl _ _
      · exact Lib.bytesWorld_below _ _ _
  | range =>
    obtain ⟨te, pe, h2⟩ := hg.e2
    refine (Tryz.strconv_ParseInt_10_at64_range ⟨⟨l⟩⟩ hl hq _ w h2 (.inr ⟨te, pe, rfl⟩)).mono fun e w' ⟨N, he, _, _, hb⟩ => ⟨_, he, herr _ N, hb⟩
  | _ =>
    obtain ⟨te, pe, h1⟩ := hg.e1
    refine (Any.strconv_ParseInt_10_at64_syntax Tryz.laysC174 ⟨⟨l⟩⟩ hl hq _ w h1 (.inr ⟨te, pe, rfl⟩)).mono fun e w' ⟨N, he, _, _, hb⟩ => ⟨_, he, herr _ N, hb⟩
theorem more_alloc (w : World) (o : Obj) : World.more w o w.drawn = w.alloc o := rfl
theorem ascii_of_all {l : List UInt8} (h : l.all (fun b => decide (b.toNat < 128)) = true) : ∀ (j : Nat) b, l[j]? = some b → b.toNat < 128 := fun j b hj => of_decide_eq_true (List.all_eq_true.1 h b (List.mem_of_getElem? hj))
theorem sym_list : symL = syms.reverse.map fun x => x.data.toList := rfl
theorem sym_ok (C : Cx) (s : List UInt8) (w : World) : Calls Tryz.prog 32 #[.string ⟨⟨s⟩⟩] w fun e w' => ∃ u, e = .returned u ∧ PRel C (symV s) u ∧ Below w.heap.size w w' := by
  refine (symbol_calls ⟨⟨s⟩⟩ w).mono fun e w' ⟨h, hb⟩ => ?_
  have hst : ∀ (k n : Int) (x : ByteArray), PRel C (.st [.int .i64 k, .int .i64 0, .str x.data.toList, .int .i64 n, .int .i64 (-1)]) (.agg #[.int .i64 k, .int .i64 0, .string x, .int .i64 n, .int .i64 (-1)]) := by
    intro k n x
    refine .agg _ _ rfl ?_
    intro i p hi
    rcases i with _ | _ | _ | _ | _ | i
    · injection hi with hi; subst hi; exact .s _ _ (.int _ _)
    · injection hi with hi; subst hi; exact .s _ _ (.int _ _)
    · injection hi with hi; subst hi; exact .s _ _ (.str _)
    · injection hi with hi; subst hi; exact .s _ _ (.int _ _)
    · injection hi with hi; subst hi; exact .s _ _ (.int _ _)
    · simp at hi
  rcases h with ⟨rfl, hn⟩ | ⟨k, hk, rfl, h1, h2⟩
  · refine ⟨_, rfl, ?_, hb⟩
    have : symF s = none := by
      unfold symF
      rw [List.find?_eq_none]
      intro x hx
      rw [sym_list] at hx
      obtain ⟨p, hp, rfl⟩ := List.mem_map.1 hx
      have := hn p (List.mem_reverse.1 hp)
      have this : p.data.toList.isPrefixOf s = false := this
      rw [this]
      exact Bool.false_ne_true
    unfold symV
    rw [this]
    exact hst 0 0 ⟨#[]⟩
  · refine ⟨_, rfl, ?_, hb⟩
    have hl : symL.length = 15 := rfl
    have hat : ∀ j, j < 15 → symL[j]? = some (syms[14 - j]?.getD ByteArray.empty).data.toList := by decide
    have : symF s = some (syms[14 - k]?.getD ByteArray.empty).data.toList := by
      unfold symF
      rw [List.find?_eq_some_iff_getElem]
      refine ⟨h1, k, by rw [hl]; exact hk, ?_, fun j hj => ?_⟩
      · have := hat k hk
        rw [List.getElem?_eq_getElem (by rw [hl]; exact hk)] at this
        injection this
      · have := hat j (by omega)
        rw [List.getElem?_eq_getElem (by rw [hl]; omega)] at this
        injection this with this
        rw [this]
        have h3 : (syms[14 - j]?.getD ByteArray.empty).data.toList.isPrefixOf s = false := h2 j hj
        rw [h3]
        rfl
    unfold symV
    rw [this]
    exact hst 4 _ _
theorem extOkL {E : Env} (hE : E.P = Tryz.prog) (hx : E.ext = extL) {W : World} (hg : Glob W) : ExtOk E W (fixOf W) := by
  intro f g args v hf hv
  rw [hE]
  rw [hx] at hf
  unfold extL at hf
  split at hf
  · rename_i e; subst e
    injection hf with hf; subst hf
    refine ⟨⟨Tryz.f52, Tryz.func52, by kernel_rfl, by kernel_rfl⟩, fun C w vals hR _ ha => ?_⟩
    unfold parX at hv
    split at hv
    · split at hv
      · rename_i l b z hc
        obtain ⟨rfl, rfl, hl⟩ := hc
        injection hv with hv; subst hv
        obtain ⟨u, v, x, rfl, r0, r1, r2⟩ := arg3 ha
        rw [prel_str r0, prel_int r1, prel_int r2]
        exact ext_fin hR (par_ok (hg.at_ hR) hR l hl)
      · cases hv
    · cases hv
  split at hf
  · rename_i e; subst e
    injection hf with hf; subst hf
    refine ⟨⟨Tryz.f40, Tryz.func40, by kernel_rfl, by kernel_rfl⟩, fun C w vals hR _ ha => ?_⟩
    unfold replX at hv
    split at hv
    · split at hv
      · rename_i s old new hc
        obtain ⟨h0, h1, h2⟩ := hc
        injection hv with hv; subst hv
        obtain ⟨u, v, x, rfl, r0, r1, r2⟩ := arg3 ha
        rw [prel_str r0, prel_str r1, prel_str r2]
        obtain ⟨m, hm⟩ := (hg.at_ hR).m
        exact ext_fin hR ((Tryz.strings_ReplaceAll ⟨⟨s⟩⟩ ⟨⟨old⟩⟩ ⟨⟨new⟩⟩ m w h0 hm h1 h2).mono fun e w' ⟨he, hb⟩ => ⟨_, he, .s _ _ (.str _), hb⟩)
      · cases hv
    · cases hv
  split at hf
  · rename_i e; subst e
    injection hf with hf; subst hf
    refine ⟨⟨Tryz.f41, Tryz.func41, by kernel_rfl, by kernel_rfl⟩, fun C w vals hR _ ha => ?_⟩
    unfold fldX at hv
    split at hv
    · split at hv
      · rename_i l hc
        obtain ⟨h0, hn, h1⟩ := hc
        injection hv with hv; subst hv
        obtain ⟨u, rfl, r0⟩ := arg1 ha
        rw [prel_str r0]
        refine (Tryz.strings_Fields ⟨⟨l⟩⟩ w h0 (ascii_of_all h1) (hg.at_ hR).tab).mono fun e w' ⟨he, hw⟩ => ?_
        have hrow : RowsAt C.F 1 ((Lib.fields l).map txRow) ((Lib.fields l).map fun l => Value.string ⟨l.toArray⟩).toArray := by
          refine ⟨by simp, fun c hc => ?_, fun i c j p hi hj => ?_⟩
          · obtain ⟨x, _, rfl⟩ := List.mem_map.1 hc
            rfl
          · rw [List.getElem?_map] at hi
            cases hx : (Lib.fields l)[i]? with
            | none => rw [hx] at hi; cases hi
            | some x =>
              rw [hx] at hi
              injection hi with hi
              subst hi
              cases j with
              | zero =>
                injection hj with hj
                subst hj
                have e : (((Lib.fields l).map fun l => Value.string ⟨l.toArray⟩).toArray).getD (i * 1 + 0) undef = .string ⟨x.toArray⟩ := by
                  simp [Array.getD_eq_getD_getElem?, hx]
                rw [e]
                exact .str _
              | succ j => simp [txRow] at hj
        obtain ⟨C', k1, k2, k3, k4⟩ := fix_new hR hrow (by rw [List.length_map]; unfold maxLen; omega) 9 w.drawn
        rw [more_alloc] at k2 k3
        subst hw
        refine ⟨C', k1, k2, k3, ?_⟩
        subst he
        rw [List.length_map] at k4
        exact PRel.s _ _ k4
      · cases hv
    · cases hv
  split at hf
  · rename_i e; subst e
    injection hf with hf; subst hf
    refine ⟨⟨Tryz.f32, Tryz.func32, by kernel_rfl, by kernel_rfl⟩, fun C w vals hR _ ha => ?_⟩
    unfold symX at hv
    split at hv
    · rename_i s
      injection hv with hv; subst hv
      obtain ⟨u, rfl, r0⟩ := arg1 ha
      rw [prel_str r0]
      exact ext_fin hR (sym_ok C s w)
    · cases hv
  split at hf
  · rename_i e; subst e
    injection hf with hf; subst hf
    refine ⟨⟨Tryz.f42, Tryz.func42, by kernel_rfl, by kernel_rfl⟩, fun C w vals hR _ ha => ?_⟩
    exact join_ok Tryz.strings_Join_none Tryz.strings_Join hv hR ha
  · cases hf
end Go.Vm
