/- Regions in text order, code, and a whole run. -/
import Derived.Test.YtfgkhgkgaedcmaaVmP
set_option linter.unusedVariables false
set_option linter.unusedSimpArgs false
namespace Go.Vm
open Go.RowKit

section
variable {E : Env} {w0 : World} {F0 : Fix} {nt : Nat} {C0 : Cx} {ws : World} {n0 : Nat}

theorem opsO_ok {run : Run} {ops : Array Oper} (hG : GOk E F0) (hB0 : Base F0 C0) (hrun : RunOk E.P w0 F0 run) {e : Ex} {s : St} : ∀ (os : List Oper) (l : List Nat) {T : Nat → PV} {H : Ob} {next : Nat} {a : Act} {w : World},
    os.length = l.length → (∀ (k i : Nat), l[k]? = some i → ops[i]? = os[k]?) → (∀ o ∈ os, ∀ d, o.dst = some d → d < nt) → opsO E (callC run) run ops false os T H next = some (e, s) → At E w0 F0 nt C0 ws n0 ⟨T, H, next⟩ a w →
    wpOps E.P ops (Exits E w0 F0 nt C0 ws n0 e s) l a w
  | [], [], T, H, next, a, w, hl, hi, hd, h, hat => by
    simp only [opsO] at h
    injection h with h
    injection h with e1 e2
    subst e1; subst e2
    exact ⟨rfl, hat⟩
  | [], _ :: _, _, _, _, _, _, hl, _, _, _, _ => by simp at hl
  | _ :: _, [], _, _, _, _, _, hl, _, _, _, _ => by simp at hl
  | o :: os, i :: l, T, H, next, a, w, hl, hi, hd, h, hat => by
    rw [wpOps_cons]
    have h0 : ops[i]? = some o := by simpa using hi 0 i rfl
    simp only [opsO] at h
    obtain ⟨x, h1, h2⟩ := bnd_eq_some.1 h
    refine stepO_ok hG hB0 hrun h0 (fun d hd' => hd o (List.mem_cons_self ..) d hd') h1 hat ?_
    cases x with
    | go T1 H1 n1 =>
      intro a1 w1 hat1
      exact opsO_ok hG hB0 hrun os l (by simpa using hl) (fun k j hk => by simpa using hi (k + 1) j (by simpa using hk)) (fun o ho => hd o (List.mem_cons_of_mem _ ho)) h2 hat1
    | panic v T1 H1 n1 =>
      simp only [Bool.false_eq_true, if_false] at h2
      injection h2 with h2
      injection h2 with e1 e2
      subst e1; subst e2
      intro chain a1 w1 hx
      exact hx

/-- What code's places and its drawn regions must answer. -/
def codeOk (dk : Array Oper → Bool) (nt : Nat) : Code → Bool
  | .region _ ops draw => ops.all (fun o => match o.dst with | some d => decide (d < nt) | none => true) && (!draw || dk ops)
  | .seq a b => codeOk dk nt a && codeOk dk nt b
  | .cond _ a b => codeOk dk nt a && codeOk dk nt b
  | .block _ c => codeOk dk nt c
  | .loop c => codeOk dk nt c
  | _ => true
def DrawnOk (E : Env) (w0 : World) (F0 : Fix) (dyn : Bool) (run : Run) : Prop :=
  ∀ (nt : Nat) (C0 : Cx) (ws : World) (n0 : Nat) (id : Nat) (ops : Array Oper) (e : Ex) (s s' : St) (a : Act) (w : World), Base F0 C0 → drawOk dyn ops = true → (∀ o ∈ ops.toList, ∀ d, o.dst = some d → d < nt) →
    (if dyn = true then opsD E (callC run) run ops (masks ops.toList) 0 [] ops.toList s.T (frz s.T (preS ops) s.H) s.next else opsO E (callC run) run ops true ops.toList s.T s.H s.next) = some (e, s') → At E w0 F0 nt C0 ws n0 s a w → (Code.region id ops true).wp E.P (Exits E w0 F0 nt C0 ws n0 e s') a w

theorem exits_mono {e : Ex} {s : St} {Q : Exit → Act → World → Prop} {c : Code} {a : Act} {w : World} (h : c.wp E.P (Exits E w0 F0 nt C0 ws n0 e s) a w) (hq : ∀ x a w, Exits E w0 F0 nt C0 ws n0 e s x a w → Q x a w) : c.wp E.P Q a w := Code.wp_mono hq h

theorem ops_dst {ops : Array Oper} (h : ops.all (fun o => match o.dst with | some d => decide (d < nt) | none => true) = true) : ∀ o ∈ ops.toList, ∀ d, o.dst = some d → d < nt := by
  intro o ho d hd
  have := Array.all_eq_true_iff_forall_mem.1 h o (by simpa using ho)
  rw [hd] at this
  simpa using this

theorem least {p : Nat → Prop} (h : ∃ n, p n) : ∃ n, p n ∧ ∀ m, p m → n ≤ m := by
  obtain ⟨n, hn⟩ := h
  induction n using Nat.strongRecOn with
  | _ n ih =>
    by_cases hm : ∃ m, m < n ∧ p m
    · obtain ⟨m, hlt, hp⟩ := hm
      exact ih m hlt hp
    · exact ⟨n, hn, fun m hp => Nat.le_of_not_lt (fun hlt => hm ⟨m, hlt, hp⟩)⟩

theorem loopN_ok {body : St → Option (Ex × St)} {c : Code} {e : Ex} {s' : St} (hbody : ∀ s e s' a w, body s = some (e, s') → At E w0 F0 nt C0 ws n0 s a w → c.wp E.P (Exits E w0 F0 nt C0 ws n0 e s') a w) {n : Nat} {s : St} {a : Act} {w : World}
    (h : loopN body n s = some (e, s')) (hat : At E w0 F0 nt C0 ws n0 s a w) : (Code.loop c).wp E.P (Exits E w0 F0 nt C0 ws n0 e s') a w := by
  classical
  let I : Act → World → Prop := fun a w => ∃ n s, loopN body n s = some (e, s') ∧ At E w0 F0 nt C0 ws n0 s a w
  let μ : Act → World → Nat := fun a w => if hI : I a w then Classical.choose (least hI) else 0
  refine wp_loop I μ ⟨n, s, h, hat⟩ (fun a w hI => ?_)
  have hμ : μ a w = Classical.choose (least hI) := dif_pos hI
  obtain ⟨s1, h1, hat1⟩ := (Classical.choose_spec (least hI)).1
  rw [← hμ] at h1
  cases hm : μ a w with
  | zero => rw [hm] at h1; simp [loopN] at h1
  | succ m =>
    rw [hm] at h1
    simp only [loopN] at h1
    obtain ⟨⟨e2, s2⟩, h2, h3⟩ := bnd_eq_some.1 h1
    simp only at h3
    refine exits_mono (hbody _ _ _ _ _ h2 hat1) (fun x a' w' hx => ?_)
    cases x with
    | normal =>
      obtain ⟨e1, hx⟩ := hx
      subst e1
      simp only at h3
      have hI' : I a' w' := ⟨m, s2, h3, hx⟩
      refine ⟨hI', ?_⟩
      have : μ a' w' = Classical.choose (least hI') := dif_pos hI'
      rw [this]
      exact Nat.lt_succ_of_le ((Classical.choose_spec (least hI')).2 _ ⟨s2, h3, hx⟩)
    | exit i =>
      obtain ⟨e1, hx⟩ := hx
      subst e1
      injection h3 with h3
      injection h3 with e1 e2
      subst e1; subst e2
      exact ⟨rfl, hx⟩
    | ret =>
      obtain ⟨e1, hx⟩ := hx
      subst e1
      injection h3 with h3
      injection h3 with e1 e2
      subst e1; subst e2
      exact ⟨rfl, hx⟩
    | panic chain =>
      obtain ⟨g1, g2, g3, v, C, u, e1, g4⟩ := hx
      subst e1
      injection h3 with h3
      injection h3 with e1 e2
      subst e1; subst e2
      exact ⟨g1, g2, g3, v, C, u, rfl, g4⟩
    | goto l => exact hx.elim
    | outgrown => exact hx.elim

theorem exec_ok {dyn : Bool} {run : Run} (hG : GOk E F0) (hB0 : Base F0 C0) (hrun : RunOk E.P w0 F0 run) (hdr : DrawnOk E w0 F0 dyn run) {n : Nat} : ∀ (c : Code) {s s' : St} {e : Ex} {a : Act} {w : World},
    codeOk (drawOk dyn) nt c = true → exec E dyn (callC run) run n c s = some (e, s') → At E w0 F0 nt C0 ws n0 s a w → c.wp E.P (Exits E w0 F0 nt C0 ws n0 e s') a w
  | .skip, s, s', e, a, w, hc, h, hat => by
    simp only [exec] at h
    injection h with h
    injection h with e1 e2
    subst e1; subst e2
    exact wp_skip ⟨rfl, hat⟩
  | .label l, s, s', e, a, w, hc, h, hat => by
    simp only [exec] at h
    injection h with h
    injection h with e1 e2
    subst e1; subst e2
    exact wp_label ⟨rfl, hat⟩
  | .exit i, s, s', e, a, w, hc, h, hat => by
    simp only [exec] at h
    injection h with h
    injection h with e1 e2
    subst e1; subst e2
    exact wp_exit ⟨rfl, hat⟩
  | .ret, s, s', e, a, w, hc, h, hat => by
    simp only [exec] at h
    injection h with h
    injection h with e1 e2
    subst e1; subst e2
    exact wp_ret ⟨rfl, hat⟩
  | .region id ops draw, s, s', e, a, w, hc, h, hat => by
    simp only [exec] at h
    simp only [codeOk, Bool.and_eq_true] at hc
    have hds := ops_dst hc.1
    cases draw with
    | false =>
      rw [if_neg (by simp)] at h
      exact wp_region (opsO_ok hG hB0 hrun _ _ (by simp) (fun k i hk => by
        have hk2 : k < ops.size := by
          have := (List.getElem?_eq_some_iff.1 hk).1
          simpa using this
        rw [List.getElem?_range hk2] at hk
        injection hk with hk
        subst hk
        simp) hds h hat)
    | true => exact hdr nt C0 ws n0 id ops e s s' a w hB0 (by simpa using hc.2) hds (by simpa using h) hat
  | .seq x y, s, s', e, a, w, hc, h, hat => by
    simp only [exec] at h
    simp only [codeOk, Bool.and_eq_true] at hc
    obtain ⟨⟨e1, s1⟩, h1, h2⟩ := bnd_eq_some.1 h
    simp only at h2
    refine wp_seq (exits_mono (exec_ok hG hB0 hrun hdr x hc.1 h1 hat) (fun q a' w' hx => ?_))
    cases q with
    | normal =>
      obtain ⟨k1, hx⟩ := hx
      subst k1
      exact exec_ok hG hB0 hrun hdr y hc.2 h2 hx
    | exit i =>
      obtain ⟨k1, hx⟩ := hx
      subst k1
      injection h2 with h2
      injection h2 with k1 k2
      subst k1; subst k2
      exact ⟨rfl, hx⟩
    | ret =>
      obtain ⟨k1, hx⟩ := hx
      subst k1
      injection h2 with h2
      injection h2 with k1 k2
      subst k1; subst k2
      exact ⟨rfl, hx⟩
    | panic chain =>
      obtain ⟨g1, g2, g3, v, C, u, k1, g4⟩ := hx
      subst k1
      injection h2 with h2
      injection h2 with k1 k2
      subst k1; subst k2
      exact ⟨g1, g2, g3, v, C, u, rfl, g4⟩
    | goto l => exact hx.elim
    | outgrown => exact hx.elim
  | .cond c x y, s, s', e, a, w, hc, h, hat => by
    simp only [exec] at h
    simp only [codeOk, Bool.and_eq_true] at hc
    obtain ⟨v, h1, h2⟩ := bnd_eq_some.1 h
    split at h2
    · rename_i t
      obtain ⟨C, g1, g2, g3, g4⟩ := hat.at_
      have hv := g4.evals hG (hB0.ext g3) _ _ h1
      have hv' := prel_bool hv
      refine wp_cond hv' ?_
      cases t with
      | true =>
        simp only [if_true] at h2 ⊢
        exact exec_ok hG hB0 hrun hdr x hc.1 h2 hat
      | false =>
        simp only [Bool.false_eq_true, if_false] at h2 ⊢
        exact exec_ok hG hB0 hrun hdr y hc.2 h2 hat
    · cases h2
  | .block id c, s, s', e, a, w, hc, h, hat => by
    simp only [exec] at h
    simp only [codeOk] at hc
    obtain ⟨⟨e1, s1⟩, h1, h2⟩ := bnd_eq_some.1 h
    simp only at h2
    refine wp_block (exits_mono (exec_ok hG hB0 hrun hdr c hc h1 hat) (fun q a' w' hx => ?_))
    cases q with
    | normal =>
      obtain ⟨k1, hx⟩ := hx
      subst k1
      injection h2 with h2
      injection h2 with k1 k2
      subst k1; subst k2
      exact ⟨rfl, hx⟩
    | exit i =>
      obtain ⟨k1, hx⟩ := hx
      subst k1
      injection h2 with h2
      injection h2 with k1 k2
      subst k1; subst k2
      simp only [Exit.inBlock]
      split
      · exact ⟨rfl, hx⟩
      · exact ⟨rfl, hx⟩
    | ret =>
      obtain ⟨k1, hx⟩ := hx
      subst k1
      injection h2 with h2
      injection h2 with k1 k2
      subst k1; subst k2
      exact ⟨rfl, hx⟩
    | panic chain =>
      obtain ⟨g1, g2, g3, v, C, u, k1, g4⟩ := hx
      subst k1
      injection h2 with h2
      injection h2 with k1 k2
      subst k1; subst k2
      exact ⟨g1, g2, g3, v, C, u, rfl, g4⟩
    | goto l => exact hx.elim
    | outgrown => exact hx.elim
  | .loop c, s, s', e, a, w, hc, h, hat => by
    simp only [exec] at h
    simp only [codeOk] at hc
    exact loopN_ok (fun s e s' a w hb hat => exec_ok hG hB0 hrun hdr c hc hb hat) h hat
  | .rangeFunc .., s, s', e, a, w, hc, h, hat => by simp [exec] at h
  | .scope .., s, s', e, a, w, hc, h, hat => by simp [exec] at h
  | .goto .., s, s', e, a, w, hc, h, hat => by simp [exec] at h

def resStep (tmps : Array Value) : ResultVar → Sem Value
  | .tmp t => pure (tmps.getD t undef)
  | .cell a t => do loadVar t (← asAddr (tmps.getD a undef))
theorem results_eq (fn : Func) (tmps : Array Value) : results fn tmps = (do let vs ← fn.results.mapM (resStep tmps); pure (if h : vs.size = 1 then vs[0] else .tuple vs)) := by
  have : resStep tmps = (fun | .tmp t => pure (tmps.getD t undef) | .cell a t => do loadVar t (← asAddr (tmps.getD a undef))) := by
    funext x
    cases x <;> rfl
  unfold results
  rw [this]
  rfl
theorem resultsS_run {C : Cx} {w : World} {T : Nat → PV} {tmps : Array Value} (hR : Rel w0 C w) (hT : ∀ i, PRel C (T i) (tmps.getD i undef)) : ∀ {l : List ResultVar} {q : List PV}, resultsS E.P T C.H l = some q →
    ∃ vs : List Value, (l.mapM (resStep tmps)).run E.P w = .ok vs w ∧ q.length = vs.length ∧ ∀ (i : Nat) p, q[i]? = some p → PRel C p (vs.getD i undef)
  | [], q, h => by
    simp only [resultsS] at h
    injection h with h
    subst h
    exact ⟨[], rfl, rfl, fun i p hi => by simp at hi⟩
  | .tmp t :: r, q, h => by
    simp only [resultsS] at h
    obtain ⟨q1, h1, h2⟩ := bnd_eq_some.1 h
    injection h2 with h2
    subst h2
    obtain ⟨vs, g1, g2, g3⟩ := resultsS_run hR hT h1
    refine ⟨tmps.getD t undef :: vs, ?_, by simp [g2], fun i p hi => ?_⟩
    · simp only [List.mapM_cons, resStep, Sem.run_bind, Sem.run_pure, Result.andThen_ok, g1]
    · cases i with
      | zero =>
        simp at hi
        subst hi
        exact hT t
      | succ i => simpa using g3 i p (by simpa using hi)
  | .cell b t :: r, q, h => by
    simp only [resultsS] at h
    obtain ⟨v, h0, h⟩ := bnd_eq_some.1 h
    obtain ⟨q1, h1, h2⟩ := bnd_eq_some.1 h
    injection h2 with h2
    subst h2
    obtain ⟨vs, g1, g2, g3⟩ := resultsS_run hR hT h1
    obtain ⟨x, k1, k2⟩ := loadO_run hR h0 (hT b)
    refine ⟨x :: vs, ?_, by simp [g2], fun i p hi => ?_⟩
    · have : (resStep tmps (.cell b t)).run E.P w = .ok x w := by
        have hsome : ∃ a, tmps.getD b undef = .pointer (some a) := by
          have hb := hT b
          unfold loadO at h0
          split at h0 <;> first
            | cases h0
            | skip
          · rename_i id off hTb; rw [hTb] at hb; generalize tmps.getD b undef = u at hb; cases hb; exact ⟨_, rfl⟩
          · rename_i id off hTb; rw [hTb] at hb; generalize tmps.getD b undef = u at hb; cases hb; exact ⟨_, rfl⟩
          · rename_i id ver i off hTb
            rw [hTb] at hb
            split at h0
            · rename_i hH
              split at h0
              · rename_i hv
                generalize tmps.getD b undef = u at hb
                cases hb with
                | aptr id ver i off ty sz cur fz ap es v h hv1 h1 he =>
                  rw [h] at hH
                  injection hH with _ _ e3
                  exact ⟨_, he (by rw [← hv, ← e3])⟩
              · cases h0
            · cases h0
        obtain ⟨ad, had⟩ := hsome
        rw [had] at k1
        simp only [resStep, had]
        simpa [Instr.loadAt, Instr.sureAddr, asAddr] using k1
      simp only [List.mapM_cons, Sem.run_bind, Sem.run_pure, this, Result.andThen_ok, g1]
    · cases i with
      | zero =>
        simp at hi
        subst hi
        exact k2
      | succ i => simpa using g3 i p (by simpa using hi)
end

/-- A library's function, as the machine takes it. -/
def ExtOk (E : Env) (w0 : World) (F0 : Fix) : Prop := ∀ f g args v, E.ext f = some g → g args = some v → FnOk E.P f ∧ ∀ (C : Cx) (w : World) (vals : Array Value), Rel w0 C w → Base F0 C → ArgRel C args vals →
  Calls E.P f vals w fun e w' => ∃ C', C'.H = C.H ∧ Rel w0 C' w' ∧ Ext C w C' w' ∧ OutRel C' (.ret v) e
def CodesOk (E : Env) : Prop := ∀ f fn c, E.use f = true → E.P.funcs[f]? = some fn → fn.body = some c → codeOk (drawOk (E.dyn f)) fn.ntmps c = true ∧ (fn.name == "runtime.NumGoroutine") = false

theorem runF_ok' {E : Env} {w0 : World} {F0 : Fix} (hG : GOk E F0) (hX : ExtOk E w0 F0) (hC : CodesOk E) (hdr : ∀ run dyn, RunOk E.P w0 F0 run → DrawnOk E w0 F0 dyn run) : ∀ n, RunOk E.P w0 F0 (runF E n)
  | 0 => fun f args H next o H' next' h => by simp [runF] at h
  | n + 1 => fun f args H next o H' next' h => by
    have hrun := runF_ok' hG hX hC hdr n
    simp only [runF] at h
    split at h
    · rename_i g hg
      obtain ⟨v, h1, h2⟩ := bnd_eq_some.1 h
      injection h2 with h2
      injection h2 with e1 e2
      injection e2 with e2 e3
      subst e1; subst e2; subst e3
      obtain ⟨k1, k2⟩ := hX f g args v hg h1
      refine ⟨k1, fun C w vals hCH hT hR hB ha => (k2 C w vals hR hB ha).mono (fun e w' hp => ?_)⟩
      obtain ⟨C', g1, g2, g3, g4⟩ := hp
      exact ⟨C', g1.trans hCH, hT, Nat.le_refl _, g2, g3, g4⟩
    · split at h
      · rename_i fn hfn
        split at h
        · rename_i c hc
          split at h
          · rename_i hcond
            obtain ⟨hlen, huse⟩ := hcond
            obtain ⟨hok, hname⟩ := hC f fn c huse hfn hc
            refine ⟨⟨fn, hfn, hname, by rw [hc]; rfl⟩, fun C w vals hCH hT hR hB ha => ?_⟩
            obtain ⟨⟨e, s⟩, h1, h2⟩ := bnd_eq_some.1 h
            refine calls_of_wp hfn hc ?_
            have hsz : vals.size ≤ fn.ntmps := by rw [← ha.1]; exact hlen
            have hat : At E w0 F0 fn.ntmps C w next ⟨enter args, H, next⟩ { tmps := vals ++ Array.replicate (fn.ntmps - vals.size) undef, defers := [] } w := by
              refine ⟨⟨C, hCH, hR, Ext.refl C w, rfl, fun i => ?_⟩, hT, Nat.le_refl _, by simp; omega⟩
              unfold enter
              simp only
              by_cases hi : i < args.length
              · have h3 : args[i]? = some (args.getD i .undef) := by simp [List.getD_eq_getElem?_getD, hi]
                have h4 := ha.2 i _ h3
                have h5 : (vals ++ Array.replicate (fn.ntmps - vals.size) undef).getD i undef = vals.getD i undef := by
                  rw [Array.getD_eq_getD_getElem?, Array.getElem?_append_left (by rw [← ha.1]; exact hi), Array.getD_eq_getD_getElem?]
                rw [h5]
                exact h4
              · have h3 : args.getD i .undef = .undef := by simp [List.getD_eq_getElem?_getD, List.getElem?_eq_none (by omega : args.length ≤ i)]
                have h5 : (vals ++ Array.replicate (fn.ntmps - vals.size) undef).getD i undef = undef := by
                  rw [Array.getD_eq_getD_getElem?, Array.getElem?_append_right (by rw [← ha.1]; omega), Array.getElem?_replicate]
                  split <;> rfl
                rw [h3, h5]
                exact undef_rel C
            refine exits_mono (exec_ok hG hB hrun (hdr _ _ hrun) c hok h1 hat) (fun x a' w' hx => ?_)
            have fin : ∀ (hx : At E w0 F0 fn.ntmps C w next s a' w') (vs : List PV), resultsS E.P s.T s.H fn.results.toList = some vs → o = .ret (packR vs) → H' = s.H → next' = s.next →
                a'.defers = [] ∧ ∃ v, (results fn a'.tmps).run E.P w' = .ok v w' ∧ Post w0 C w o H' next next' (.returned v) w' := by
              intro hx vs hvs e1 e2 e3
              subst e1; subst e2; subst e3
              obtain ⟨C', g1, g2, g3, g4⟩ := hx.at_
              rw [← g1] at hvs
              obtain ⟨us, k1, k2, k3⟩ := resultsS_run g2 g4.2 hvs
              have hres : (fn.results.mapM (resStep a'.tmps)).run E.P w' = .ok us.toArray w' := by
                rw [Array.mapM_eq_mapM_toList]
                rw [map_eq_pure_bind, Sem.run_bind, k1]
                rfl
              refine ⟨g4.1, if h : us.toArray.size = 1 then us.toArray[0] else .tuple us.toArray, ?_, C', g1, hx.tail, hx.le, g2, g3, ?_⟩
              · rw [results_eq, Sem.run_bind, hres]
                rfl
              · show PRel C' (packR vs) _
                match vs, us, k2, k3 with
                | [p], [u], _, k3 => exact k3 0 p rfl
                | [], [], _, k3 => exact .tuple _ _ rfl (fun i p hi => by simp at hi)
                | p :: p' :: r, u :: u' :: r', k2, k3 =>
                  have : ¬ (u :: u' :: r').toArray.size = 1 := by simp
                  rw [dif_neg this]
                  exact .tuple _ _ (by simpa using k2) (fun i p hi => by simpa [Array.getD_eq_getD_getElem?, List.getD_eq_getElem?_getD] using k3 i p hi)
            unfold finishO at h2
            cases x with
            | normal =>
              obtain ⟨e1, hx⟩ := hx
              subst e1
              simp only at h2
              obtain ⟨vs, h3, h4⟩ := bnd_eq_some.1 h2
              injection h4 with h4
              injection h4 with q1 q2
              injection q2 with q2 q3
              exact fin hx vs h3 q1.symm q2.symm q3.symm
            | ret =>
              obtain ⟨e1, hx⟩ := hx
              subst e1
              simp only at h2
              obtain ⟨vs, h3, h4⟩ := bnd_eq_some.1 h2
              injection h4 with h4
              injection h4 with q1 q2
              injection q2 with q2 q3
              exact fin hx vs h3 q1.symm q2.symm q3.symm
            | panic chain =>
              obtain ⟨g1, g2, g3, v, C', u, e1, g4, g5, g6, g7, g8⟩ := hx
              subst e1
              simp only at h2
              injection h2 with h2
              injection h2 with q1 q2
              injection q2 with q2 q3
              subst q1; subst q2; subst q3
              exact ⟨g1, C', g4, g3, g2, g5, g6, u, g7, g8⟩
            | exit i =>
              obtain ⟨e1, hx⟩ := hx
              subst e1
              cases h2
            | goto l => exact hx.elim
            | outgrown => exact hx.elim
          · cases h
        · cases h
      · cases h
end Go.Vm
