/- To reckon with statements: what must hold ahead for something to hold behind. -/
import Derived.Test.YtfgkhgkgaedcmaaVmZI
set_option linter.unusedVariables false
set_option linter.unusedSimpArgs false
namespace Go.Vm

/-! ### partial values -/
/-- A value where something holds. -/
def gd {α : Type} (D : Prop) [Decidable D] (v : α) : Option α := if D then some v else none
theorem gd_true {α : Type} {D : Prop} [Decidable D] {v : α} (h : D) : gd D v = some v := if_pos h
theorem gd_True {α : Type} {v : α} [Decidable True] : gd True v = some v := if_pos trivial
theorem bnd_gd {α β : Type} {D : Prop} [Decidable D] {v : α} {f : α → Option β} : bnd (gd D v) f = if D then f v else none := by unfold gd; split <;> rfl
theorem if_gd {α : Type} {D D' : Prop} [Decidable D] [Decidable D'] {v : α} : (if D then gd D' v else none) = gd (D ∧ D') v := by
  unfold gd
  by_cases h : D <;> by_cases h' : D' <;> simp [h, h']
theorem if_some {α : Type} {D : Prop} [Decidable D] {v : α} : (if D then some v else none) = gd D v := rfl
def WX {α : Type} (o : Option α) (K : α → Prop) : Prop := ∃ v, o = some v ∧ K v
theorem WX_some {α : Type} {v : α} {K : α → Prop} : WX (some v) K = K v := by
  apply propext
  constructor
  · rintro ⟨w, h, hk⟩
    injection h with h
    rw [h]; exact hk
  · intro h; exact ⟨v, rfl, h⟩
theorem WX_gd {α : Type} {D : Prop} [Decidable D] {v : α} {K : α → Prop} : WX (gd D v) K = (D ∧ K v) := by
  apply propext
  unfold gd
  constructor
  · rintro ⟨w, h, hk⟩
    split at h
    · rename_i hD
      injection h with h
      rw [h]; exact ⟨hD, hk⟩
    · cases h
  · rintro ⟨hD, h⟩
    exact ⟨v, if_pos hD, h⟩
theorem WX_bnd {α β : Type} {o : Option α} {f : α → Option β} {K : β → Prop} : WX (bnd o f) K = WX o (fun v => WX (f v) K) := by
  apply propext
  constructor
  · rintro ⟨w, h, hk⟩
    obtain ⟨a, h1, h2⟩ := bnd_eq_some.1 h
    exact ⟨a, h1, w, h2, hk⟩
  · rintro ⟨a, h1, w, h2, hk⟩
    exact ⟨w, by rw [h1]; exact h2, hk⟩
@[congr] theorem WX_congr {α : Type} {o o' : Option α} {K : α → Prop} (h : o = o') : WX o K = WX o' K := by rw [h]

/-! ### expressions -/
noncomputable def evO (o : MOp) (T : Nat → PV) (H : Ob) : Option PV := bnd (mstep o false T H 0) fun r => some r.1
theorem pureR_fst {H : Ob} {v : Option PV} : (bnd (pureR H v) fun r => some r.1) = v := by cases v <;> rfl
theorem evX_x {T H m} : evX T H (.x m) = some (valX T m) := by simp only [evX]
theorem evX_op {T H o l} : evX T H (.op o l) = bnd (evS T H l) fun q => evO o (over T q) H := by simp only [evX]; rfl
def asB : PV → Option Bool
  | .s (.bool t) => some t
  | _ => none
theorem asB_bool {t : Bool} : asB (.s (.bool t)) = some t := rfl
theorem evX_pick {T H c a b} : evX T H (.pick c a b) = bnd (evX T H c) fun v => bnd (asB v) fun t => if t = true then evX T H a else evX T H b := by
  simp only [evX]
  cases evX T H c with
  | none => rfl
  | some v =>
    cases v with
    | s v => cases v <;> rfl
    | _ => rfl
theorem evS_nil {T H} : evS T H [] = some [] := by simp only [evS]
theorem evS_cons {T H i e r} : evS T H ((i, e) :: r) = bnd (evX T H e) fun v => bnd (evS T H r) fun q => some ((i, v) :: q) := by simp only [evS]
theorem evO_load {agg sz a T H} : evO (.load agg sz a) T H = loadM agg sz H (valX T a) := pureR_fst
theorem evO_chk {a T H} : evO (.chk a) T H = nilCheckV (valX T a) := pureR_fst
theorem evO_bin {op k x y T H} : evO (.bin op k x y) T H = binM op k (valX T x) (valX T y) := pureR_fst
theorem evO_un {op x T H} : evO (.un op x) T H = unOpS op (valX T x) := pureR_fst
theorem evO_sl {k x l h T H} : evO (.sl k x l h) T H = sliceM k H (valX T x) (valM T l) (valM T h) := pureR_fst
theorem evO_fa {o x T H} : evO (.fa o x) T H = fieldAM o H (valX T x) := pureR_fst
theorem evO_fv {o agg sz x T H} : evO (.fv o agg sz x) T H = fieldVM o agg sz (valX T x) := pureR_fst
theorem evO_ia {k x i T H} : evO (.ia k x i) T H = indexAM k H (valX T x) (valX T i) := pureR_fst
theorem evO_iv {k x i T H} : evO (.iv k x i) T H = indexVM k (valX T x) (valX T i) := pureR_fst
theorem evO_look {kt z ok m k T H} : evO (.look kt z ok m k) T H = lookM kt z ok H (valX T m) (valX T k) := pureR_fst
theorem evO_ta {t ok x T H} : evO (.ta t ok x) T H = tassertM t ok (valX T x) := pureR_fst
theorem evO_ext {x i T H} : evO (.ext x i) T H = extractV i (valX T x) := pureR_fst
theorem evO_len {k x T H} : evO (.len k x) T H = lenM k H (valX T x) := pureR_fst
theorem evO_mx {b x r T H} : evO (.mx b x r) T H = maxMin b (valX T x) (r.map (valX T)) := pureR_fst
theorem evO_ifc {t x T H} : evO (.ifc t x) T H = some (ifaceM t (valX T x)) := rfl
def valsX (T : Nat → PV) (l : List MX) : List PV := l.map (valX T)
theorem valsX_nil {T} : valsX T [] = [] := rfl
theorem valsX_cons {T x r} : valsX T (x :: r) = valX T x :: valsX T r := rfl
theorem evO_mkf {f a b T H} : evO (.mkf f a b) T H = some (.func f (valsX T a) (valsX T b)) := rfl
theorem evO_build {z ps T H} : evO (.build z ps) T H = bnd (buildM (z.map .s) (ps.map fun x => (x.1, x.2.1, valX T x.2.2))) fun c => some (.agg c) := by
  unfold evO
  simp only [mstep]
  cases buildM (z.map .s) (ps.map fun x => (x.1, x.2.1, valX T x.2.2)) <;> rfl
theorem evO_convI {k x T H} : evO (.conv (.int k) x) T H = match valX T x with
    | .s (.int _ n) => some (.s (.int k (k.wrap n)))
    | _ => none := by
  unfold evO
  simp only [mstep]
  cases valX T x with
  | s v => cases v <;> rfl
  | _ => rfl
theorem evO_convS {b x T H} : evO (.conv (.str b) x) T H = bnd (convM (.str b) H 0 (valX T x)) fun r => some r.1 := rfl
theorem valX_t {T i} : valX T (.t i) = T i := rfl
theorem valX_c {T p} : valX T (.c p) = p := rfl
theorem over_nil {T} : over T [] = T := rfl
theorem over_cons {T i v r} : over T ((i, v) :: r) = upd (over T r) i v := rfl
theorem upd_at {T i v j} : upd T i v j = if j = i then v else T j := rfl
theorem set_at {H : Ob} {i o j} : H.set i o j = if j = i then o else H j := rfl
/-- A choice between two answers. -/
theorem pick_ss {t : Bool} {a b : PV} : (if t = true then some a else some b) = some (if t = true then a else b) := by cases t <;> rfl
theorem pick_sg {t : Bool} {a b : PV} {D : Prop} [Decidable D] : (if t = true then some a else gd D b) = gd (t = true ∨ D) (if t = true then a else b) := by cases t <;> simp [gd]
theorem pick_gs {t : Bool} {a b : PV} {D : Prop} [Decidable D] : (if t = true then gd D a else some b) = gd (t = true → D) (if t = true then a else b) := by cases t <;> simp [gd]
theorem pick_gg {t : Bool} {a b : PV} {D D' : Prop} [Decidable D] [Decidable D'] : (if t = true then gd D a else gd D' b) = gd ((t = true → D) ∧ (t = false → D')) (if t = true then a else b) := by cases t <;> simp [gd]
theorem pick_bool {t a b : Bool} : (if t = true then PV.s (.bool a) else PV.s (.bool b)) = PV.s (.bool (if t = true then a else b)) := by cases t <;> rfl
theorem pick_int {t : Bool} {k : IntKind} {a b : Int} : (if t = true then PV.s (.int k a) else PV.s (.int k b)) = PV.s (.int k (if t = true then a else b)) := by cases t <;> rfl
theorem pick_str {t : Bool} {a b : List UInt8} : (if t = true then PV.s (.str a) else PV.s (.str b)) = PV.s (.str (if t = true then a else b)) := by cases t <;> rfl
theorem pick_and {t a : Bool} : (if t = true then a else false) = (t && a) := by cases t <;> rfl
theorem pick_or {t b : Bool} : (if t = true then true else b) = (t || b) := by cases t <;> rfl
/-! ### operations at known shapes -/
theorem indexV_str {l : List UInt8} {k i} : indexVM .str (.s (.str l)) (.s (.int k i)) = gd (0 ≤ i ∧ i < l.length) (.s (.int .u8 (l.getD i.toNat 0).toNat)) := by
  unfold indexVM gd
  simp only
  by_cases h0 : 0 ≤ i
  · by_cases h1 : i < l.length
    · have : i.toNat < l.length := by omega
      simp [h0, h1, List.getD_eq_getElem?_getD, List.getElem?_eq_getElem this]
    · have : l.length ≤ i.toNat := by omega
      simp [h0, h1, List.getElem?_eq_none this]
  · simp [h0]
theorem bounds_eq {n : Nat} {lo hi : Option PV} : True := trivial
theorem bounds_lh {n : Nat} {k k' : IntKind} {l h : Int} : bounds n (some (.s (.int k l))) (some (.s (.int k' h))) = gd (0 ≤ l ∧ l ≤ h ∧ h ≤ n) (l.toNat, h.toNat) := by
  unfold bounds gd
  by_cases h1 : 0 ≤ h ∧ h ≤ n
  · simp only [if_pos h1]
    by_cases h2 : 0 ≤ l ∧ l ≤ h.toNat
    · have : 0 ≤ l ∧ l ≤ h ∧ h ≤ n := by omega
      rw [if_pos h2, if_pos this]
    · have : ¬ (0 ≤ l ∧ l ≤ h ∧ h ≤ n) := by omega
      rw [if_neg h2, if_neg this]
  · have : ¬ (0 ≤ l ∧ l ≤ h ∧ h ≤ n) := by omega
    simp only [if_neg h1, if_neg this]
theorem bounds_h {n : Nat} {k' : IntKind} {h : Int} : bounds n none (some (.s (.int k' h))) = gd (0 ≤ h ∧ h ≤ n) (0, h.toNat) := by
  unfold bounds gd
  by_cases h1 : 0 ≤ h ∧ h ≤ n <;> simp only [h1, if_true, if_false, and_self]
theorem bounds_l {n : Nat} {k : IntKind} {l : Int} : bounds n (some (.s (.int k l))) none = gd (0 ≤ l ∧ l ≤ n) (l.toNat, n) := by
  unfold bounds gd
  simp only
theorem bounds_n {n : Nat} : bounds n none none = some (0, n) := rfl
theorem slice_str {H : Ob} {l : List UInt8} {lo hi : Option PV} : sliceM .str H (.s (.str l)) lo hi = bnd (bounds l.length lo hi) fun r => some (.s (.str ((l.take r.2).drop r.1))) := by
  simp only [sliceM]
  cases bounds l.length lo hi <;> rfl
theorem add_str {a b : List UInt8} : binM .add .num (.s (.str a)) (.s (.str b)) = gd (a.length + b.length ≤ 9223372036854775807) (.s (.str (a ++ b))) := by
  unfold binM binStr gd
  by_cases h : a.length + b.length ≤ 9223372036854775807 <;> simp [h]
/-- A slice that is only read. -/
inductive Slc (α : Type) where
  | nil
  | mk (l : List α) (full : Bool)
  deriving Inhabited
def Slc.l {α : Type} : Slc α → List α
  | .nil => []
  | .mk l _ => l
def Slc.sv {α : Type} (f : α → List SV) : Slc α → SV
  | .nil => .nils
  | .mk l full => .slice (l.map f) full
theorem len_sv {α : Type} {f : α → List SV} {s : Slc α} {k : Nat} {H : Ob} : lenM (.sl k) H (.s (s.sv f)) = some (.i64 s.l.length) := by
  cases s with
  | nil => rfl
  | mk l full => simp [lenM, Slc.sv, Slc.l]
theorem len_slice {es : List (List SV)} {full : Bool} {k : Nat} {H : Ob} : lenM (.sl k) H (.s (.slice es full)) = some (.i64 es.length) := rfl
theorem len_nils {k : Nat} {H : Ob} : lenM (.sl k) H (.s .nils) = some (.i64 0) := rfl
theorem len_str {l : List UInt8} {H : Ob} : lenM .str H (.s (.str l)) = some (.i64 l.length) := rfl
theorem ia_sv {α : Type} {f : α → List SV} {s : Slc α} {size : Nat} {H : Ob} {k : IntKind} {i : Int} (hf : ∀ x, (f x).length = size) (hs : 0 < size) : indexAM (.sl size) H (.s (s.sv f)) (.s (.int k i)) = gd (0 ≤ i ∧ i < s.l.length) (.eptr (s.l.map f) i.toNat 0) := by
  unfold gd
  cases s with
  | nil =>
    have : ¬ (0 ≤ i ∧ i < ((Slc.nil : Slc α).l.length : Int)) := by
      show ¬ (0 ≤ i ∧ i < ((0 : Nat) : Int))
      omega
    rw [if_neg this]
    rfl
  | mk l full =>
    simp only [Slc.sv, Slc.l, indexAM, List.getElem?_map]
    by_cases h0 : 0 ≤ i
    · by_cases h1 : i < l.length
      · have : i.toNat < l.length := by omega
        simp [h0, h1, List.getElem?_eq_getElem this, hf, hs]
      · have : l.length ≤ i.toNat := by omega
        simp [h0, h1, List.getElem?_eq_none this]
    · simp [h0]
theorem fa_eptr {es i off o} {H : Ob} : fieldAM o H (.eptr es i off) = some (.eptr es i (off + o)) := rfl
theorem load_eptr {α : Type} [Inhabited α] {f : α → List SV} {l : List α} {i off sz : Nat} {agg : Bool} {H : Ob} : loadM agg sz H (.eptr (l.map f) i off) = if i < l.length then loadS agg sz (f (l.getD i default)) off else none := by
  simp only [loadM, List.getElem?_map]
  by_cases h : i < l.length
  · simp [h, List.getElem?_eq_getElem h, List.getD_eq_getElem?_getD]
  · simp [h, List.getElem?_eq_none (Nat.le_of_not_lt h)]

/-! ### statements -/
abbrev Qt := Ex → (Nat → PV) → Ob → Nat → Prop
def Ex.ok : Ex → Bool
  | .panic _ => false
  | _ => true
def WS (E : Env) (dr : Bool) (l : List St1) (T : Nat → PV) (H : Ob) (n : Nat) (Q : Qt) : Prop := ∃ e T1 H1 n1, sts E dr l T H n = some (e, ⟨T1, H1, n1⟩) ∧ e.ok = true ∧ Q e T1 H1 n1
def WP (E : Env) (c : SC) (T : Nat → PV) (H : Ob) (n : Nat) (Q : Qt) : Prop := ∃ e T1 H1 n1, Y E c ⟨T, H, n⟩ = some (e, ⟨T1, H1, n1⟩) ∧ e.ok = true ∧ Q e T1 H1 n1
def WC (E : Env) (dr : Bool) (f : FuncId) (args : List PV) (H : Ob) (n : Nat) (K : PV → Ob → Nat → Prop) : Prop := ∃ v H1 n1, doCall E (calL E) (runL E) dr f args H n = some (.ret v, H1, n1) ∧ K v H1 n1
def WV (E : Env) (dr : Bool) (f : PV) (args : List PV) (H : Ob) (n : Nat) (K : PV → Ob → Nat → Prop) : Prop := ∃ c, callee f = some c ∧ WC E dr c.1 (c.2.1 ++ args ++ c.2.2) H n K
@[congr] theorem WS_congr {E dr l T H n Q} : WS E dr l T H n Q = WS E dr l T H n Q := rfl
@[congr] theorem WP_congr {E c T H n Q} : WP E c T H n Q = WP E c T H n Q := rfl
@[congr] theorem WC_congr {E dr f a a' H H' n n' K} (h : a = a') (h1 : H = H') (h2 : n = n') : WC E dr f a H n K = WC E dr f a' H' n' K := by rw [h, h1, h2]
@[congr] theorem WV_congr {E dr f f' a a' H H' n n' K} (h0 : f = f') (h : a = a') (h1 : H = H') (h2 : n = n') : WV E dr f a H n K = WV E dr f' a' H' n' K := by rw [h0, h, h1, h2]
section
variable {E : Env} {dr : Bool} {T : Nat → PV} {H : Ob} {n : Nat} {Q : Qt}

theorem WS_nil : WS E dr [] T H n Q = Q .normal T H n := by
  apply propext
  constructor
  · rintro ⟨e, T1, H1, n1, h, _, hq⟩
    simp only [sts] at h
    injection h with h
    injection h with h1 h2
    injection h2 with h2 h3 h4
    subst h1; subst h2; subst h3; subst h4
    exact hq
  · intro h; exact ⟨_, _, _, _, rfl, rfl, h⟩
theorem WS_set {d e r} : WS E dr (.set d e :: r) T H n Q = WX (evX T H e) fun v => WS E dr r (upd T d v) H n Q := by
  unfold WS WX
  simp only [sts, st1]
  cases evX T H e with
  | none => simp only [bnd_none]; apply propext; constructor <;> (intro h; simp at h)
  | some v => simp only [bnd_some]; apply propext; constructor <;> (intro h; simpa using h)
theorem WS_tick {m r} : WS E dr (.tick m :: r) T H n Q = WS E dr r T H (n + m) Q := by
  unfold WS
  simp only [sts, st1, bnd_some]
theorem WS_need {e r} : WS E dr (.need [] e :: r) T H n Q = WX (evX T H e) fun _ => WS E dr r T H n Q := by
  unfold WS WX
  simp only [sts, st1, evG, bnd_some, if_true]
  cases evX T H e with
  | none => simp only [bnd_none]; apply propext; constructor <;> (intro h; simp at h)
  | some v => simp only [bnd_some]; apply propext; constructor <;> (intro h; simpa using h)
/-- Conditions ahead of an operation. -/
def WG (T : Nat → PV) (H : Ob) : List (Xp × Bool) → (Bool → Prop) → Prop
  | [], K => K true
  | (e, w) :: r, K => WX (evX T H e) fun v => WX (asB v) fun b => if (b == w) = true then WG T H r K else K false
@[congr] theorem WG_congr {g K} : WG T H g K = WG T H g K := rfl
theorem WG_nil {K} : WG T H [] K = K true := rfl
theorem WG_cons {e w r K} : WG T H ((e, w) :: r) K = WX (evX T H e) fun v => WX (asB v) fun b => if (b == w) = true then WG T H r K else K false := rfl
theorem WG_spec {K : Bool → Prop} : ∀ {g : List (Xp × Bool)}, WG T H g K = WX (evG T H g) K
  | [] => by simp only [WG, evG, WX_some]
  | (e, w) :: r => by
    simp only [WG, evG, WX_bnd]
    congr 1
    funext v
    cases v with
    | s v =>
      cases v with
      | bool b =>
        simp only [asB, WX_some]
        by_cases hb : (b == w) = true
        · simp only [if_pos hb]
          exact WG_spec
        · simp only [if_neg hb, WX_some]
      | _ => simp [asB, WX]
    | _ => simp [asB, WX]
theorem WS_needG {x g e r} : WS E dr (.need (x :: g) e :: r) T H n Q = WG T H (x :: g) fun b => if b = true then WX (evX T H e) fun _ => WS E dr r T H n Q else WS E dr r T H n Q := by
  rw [WG_spec]
  unfold WS WX
  simp only [sts, st1]
  cases evG T H (x :: g) with
  | none => simp only [bnd_none]; apply propext; constructor <;> (intro h; simp at h)
  | some b =>
    simp only [bnd_some]
    apply propext
    cases b with
    | true =>
      cases evX T H e with
      | none => simp [bnd_none, bnd_some]
      | some v => simp [bnd_none, bnd_some]
    | false => simp [bnd_none, bnd_some]
/-- What an operation does. -/
def WA (E : Env) (dr : Bool) (o : MOp) (T : Nat → PV) (H : Ob) (n : Nat) (K : PV → Ob → Nat → Prop) : Prop := ∃ v H1 n1, actV E dr o T H n = some (.ret v, H1, n1) ∧ K v H1 n1
@[congr] theorem WA_congr {o K} : WA E dr o T H n K = WA E dr o T H n K := rfl
theorem WX_none {α : Type} {K : α → Prop} : WX (none : Option α) K = False := by simp [WX]
/-- An operation, and the statements behind it. -/
def WB (E : Env) (dr : Bool) (o : MOp) (q : Nat → PV) (H : Ob) (n : Nat) (d : Option Nat) (T : Nat → PV) (r : List St1) (Q : Qt) : Prop := WA E dr o q H n fun v H1 n1 => WS E dr r (putT T d v) H1 n1 Q
theorem WS_act {d o l r g} : WS E dr (.act d g o l :: r) T H n Q = WG T H g fun b => if b = true then WX (evS T H l) fun q => WB E dr o (over T q) H n d T r Q else WS E dr r (putT T d .undef) H (n + 1) Q := by
  unfold WB
  rw [WG_spec]
  unfold WS WA
  simp only [sts, st1]
  cases evG T H g with
  | none => simp [bnd_none, WX_none]
  | some b =>
    simp only [bnd_some, WX_some]
    cases b with
    | false => simp [bnd_some]
    | true =>
      simp only [if_true]
      cases evS T H l with
      | none => simp [bnd_none, WX_none]
      | some q =>
        simp only [bnd_some, WX_some]
        cases hA : actV E dr o (over T q) H n with
        | none => simp [bnd_none]
        | some r' =>
          obtain ⟨out, H1, n1⟩ := r'
          apply propext
          cases out with
          | ret v =>
            simp only [bnd_some, afterCall]
            constructor
            · intro h
              exact ⟨v, H1, n1, rfl, h⟩
            · rintro ⟨v', H1', n1', h1, h2⟩
              injection h1 with h1
              injection h1 with e1 e2
              injection e2 with e2 e3
              injection e1 with e1
              subst e1; subst e2; subst e3
              exact h2
          | panic v =>
            simp only [bnd_some, afterCall]
            constructor
            · rintro ⟨e, T1, H2, n2, h, hok, _⟩
              split at h
              · cases h
              · injection h with h
                injection h with h1 h2
                subst h1
                cases hok
            · rintro ⟨v', H1', n1', h1, h2⟩
              injection h1 with h1
              injection h1 with e1 e2
              cases e1
theorem WP_skip : WP E .skip T H n Q = Q .normal T H n := by
  apply propext
  constructor
  · rintro ⟨e, T1, H1, n1, h, _, hq⟩
    simp only [Y] at h
    injection h with h
    injection h with h1 h2
    injection h2 with h2 h3 h4
    subst h1; subst h2; subst h3; subst h4
    exact hq
  · intro h; exact ⟨_, _, _, _, rfl, rfl, h⟩
theorem WP_exit {i} : WP E (.exit i) T H n Q = Q (.exit i) T H n := by
  apply propext
  constructor
  · rintro ⟨e, T1, H1, n1, h, _, hq⟩
    simp only [Y] at h
    injection h with h
    injection h with h1 h2
    injection h2 with h2 h3 h4
    subst h1; subst h2; subst h3; subst h4
    exact hq
  · intro h; exact ⟨_, _, _, _, rfl, rfl, h⟩
theorem WP_ret : WP E .ret T H n Q = Q .ret T H n := by
  apply propext
  constructor
  · rintro ⟨e, T1, H1, n1, h, _, hq⟩
    simp only [Y] at h
    injection h with h
    injection h with h1 h2
    injection h2 with h2 h3 h4
    subst h1; subst h2; subst h3; subst h4
    exact hq
  · intro h; exact ⟨_, _, _, _, rfl, rfl, h⟩
theorem WP_reg {l} : WP E (.reg l dr) T H n Q = WS E dr l T H n Q := by
  unfold WP WS
  simp only [Y]
/-- A drawn region: no two operations touch one object. -/
def chkQ (chk : List (Nat × Nat × List MX × Nat × Nat × List MX)) (n0 : Nat) (Q : Qt) : Qt := fun e T H n => e = .normal ∧ chk.all (heldX T n0) = true ∧ Q .normal T H n
theorem chkQ_normal {chk n0} : chkQ chk n0 Q .normal T H n = (chk.all (heldX T n0) = true ∧ Q .normal T H n) := by simp [chkQ]
theorem WP_regD {l chk pre} : WP E (.regD l chk pre) T H n Q = WS E true l T (frz T pre H) n (chkQ chk n Q) := by
  apply propext
  constructor
  · rintro ⟨e, T1, H1, n1, h, ho, hq⟩
    simp only [Y] at h
    obtain ⟨⟨e1, T2, H2, n2⟩, h1, h2⟩ := bnd_eq_some.1 h
    cases e1 with
    | normal =>
      simp only at h2
      split at h2
      · rename_i hc
        injection h2 with h2
        injection h2 with h3 h4
        injection h4 with h4 h5 h6
        subst h3; subst h4; subst h5; subst h6
        exact ⟨_, _, _, _, h1, rfl, rfl, hc, hq⟩
      · cases h2
    | _ => cases h2
  · rintro ⟨e, T1, H1, n1, h, ho, rfl, hc, hq⟩
    exact ⟨.normal, T1, H1, n1, by simp only [Y, h, bnd_some]; rw [if_pos hc], rfl, hq⟩
/-- Behind a part of the code. -/
def thenQ (E : Env) (b : SC) (Q : Qt) : Qt := fun e T H n => match e with
  | .normal => WP E b T H n Q
  | e => Q e T H n
theorem thenQ_normal {b} : thenQ E b Q .normal T H n = WP E b T H n Q := rfl
theorem thenQ_ret {b} : thenQ E b Q .ret T H n = Q .ret T H n := rfl
theorem thenQ_exit {b i} : thenQ E b Q (.exit i) T H n = Q (.exit i) T H n := rfl
@[congr] theorem thenQ_congr {b e} : thenQ E b Q e T H n = thenQ E b Q e T H n := rfl
theorem WP_seq {a b} : WP E (.seq a b) T H n Q = WP E a T H n (thenQ E b Q) := by
  apply propext
  constructor
  · rintro ⟨e, T1, H1, n1, h, ho, hq⟩
    simp only [Y] at h
    obtain ⟨⟨e1, s1⟩, h1, h2⟩ := bnd_eq_some.1 h
    obtain ⟨T2, H2, n2⟩ := s1
    refine ⟨e1, T2, H2, n2, h1, ?_⟩
    cases e1 with
    | normal => exact ⟨rfl, e, T1, H1, n1, h2, ho, hq⟩
    | _ =>
      simp only at h2
      injection h2 with h2
      injection h2 with h3 h4
      injection h4 with h4 h5 h6
      subst h3; subst h4; subst h5; subst h6
      exact ⟨ho, hq⟩
  · rintro ⟨e1, T2, H2, n2, h1, ho, hq⟩
    cases e1 with
    | normal =>
      obtain ⟨e, T1, H1, n1, h2, ho, hq⟩ := hq
      exact ⟨e, T1, H1, n1, by simp only [Y, h1, bnd_some]; exact h2, ho, hq⟩
    | _ => exact ⟨_, T2, H2, n2, by simp only [Y, h1, bnd_some], ho, hq⟩
theorem WP_cond {x a b} : WP E (.cond x a b) T H n Q = WX (evX T H x) fun v => WX (asB v) fun t => if t = true then WP E a T H n Q else WP E b T H n Q := by
  apply propext
  unfold WP
  constructor
  · rintro ⟨e, T1, H1, n1, h, ho, hq⟩
    simp only [Y] at h
    obtain ⟨v, h1, h2⟩ := bnd_eq_some.1 h
    split at h2
    · rename_i t
      refine ⟨_, h1, t, rfl, ?_⟩
      cases t with
      | true => exact ⟨e, T1, H1, n1, h2, ho, hq⟩
      | false => exact ⟨e, T1, H1, n1, h2, ho, hq⟩
    · cases h2
  · rintro ⟨v, h1, t, h2, h⟩
    have hv : v = .s (.bool t) := by
      cases v with
      | s v => cases v <;> simp [asB] at h2; rw [h2]
      | _ => simp [asB] at h2
    subst hv
    cases t with
    | true =>
      obtain ⟨e, T1, H1, n1, h3, ho, hq⟩ := h
      exact ⟨e, T1, H1, n1, by simp only [Y, h1, bnd_some]; exact h3, ho, hq⟩
    | false =>
      obtain ⟨e, T1, H1, n1, h3, ho, hq⟩ := h
      exact ⟨e, T1, H1, n1, by simp only [Y, h1, bnd_some]; exact h3, ho, hq⟩
def blkQ (id : Nat) (Q : Qt) : Qt := fun e T H n => match e with
  | .exit i => if i = id then Q .normal T H n else Q (.exit i) T H n
  | e => Q e T H n
theorem blkQ_normal {id} : blkQ id Q .normal T H n = Q .normal T H n := rfl
theorem blkQ_ret {id} : blkQ id Q .ret T H n = Q .ret T H n := rfl
theorem blkQ_exit {id i} : blkQ id Q (.exit i) T H n = if i = id then Q .normal T H n else Q (.exit i) T H n := rfl
@[congr] theorem blkQ_congr {id e} : blkQ id Q e T H n = blkQ id Q e T H n := rfl
theorem WP_block {id c} : WP E (.block id c) T H n Q = WP E c T H n (blkQ id Q) := by
  apply propext
  constructor
  · rintro ⟨e, T1, H1, n1, h, ho, hq⟩
    simp only [Y] at h
    obtain ⟨⟨e1, s1⟩, h1, h2⟩ := bnd_eq_some.1 h
    obtain ⟨T2, H2, n2⟩ := s1
    refine ⟨e1, T2, H2, n2, h1, ?_⟩
    cases e1 with
    | exit i =>
      simp only at h2
      injection h2 with h2
      injection h2 with h3 h4
      injection h4 with h4 h5 h6
      subst h3; subst h4; subst h5; subst h6
      refine ⟨rfl, ?_⟩
      simp only [blkQ]
      split
      · rename_i hi; rw [if_pos hi] at hq; exact hq
      · rename_i hi; rw [if_neg hi] at hq; exact hq
    | _ =>
      simp only at h2
      injection h2 with h2
      injection h2 with h3 h4
      injection h4 with h4 h5 h6
      subst h3; subst h4; subst h5; subst h6
      exact ⟨ho, hq⟩
  · rintro ⟨e1, T2, H2, n2, h1, ho, hq⟩
    cases e1 with
    | exit i =>
      simp only [blkQ] at hq
      by_cases hi : i = id
      · rw [if_pos hi] at hq
        exact ⟨.normal, T2, H2, n2, by simp only [Y, h1, bnd_some, if_pos hi], rfl, hq⟩
      · rw [if_neg hi] at hq
        exact ⟨.exit i, T2, H2, n2, by simp only [Y, h1, bnd_some, if_neg hi], rfl, hq⟩
    | _ => exact ⟨_, T2, H2, n2, by simp only [Y, h1, bnd_some], ho, hq⟩

/-! ### the places that code turns -/
def wrS : List St1 → List Nat
  | [] => []
  | .set d _ :: r => d :: wrS r
  | .act (some d) _ _ _ :: r => d :: wrS r
  | _ :: r => wrS r
def wr : SC → List Nat
  | .reg l _ => wrS l
  | .regD l _ _ => wrS l
  | .seq a b => wr a ++ wr b
  | .cond _ a b => wr a ++ wr b
  | .block _ c => wr c
  | .loop c => wr c
  | _ => []
def noOrig : SC → Bool
  | .orig _ => false
  | .seq a b => noOrig a && noOrig b
  | .cond _ a b => noOrig a && noOrig b
  | .block _ c => noOrig c
  | .loop c => noOrig c
  | _ => true
def Kp (W : List Nat) (T T' : Nat → PV) : Prop := ∀ i, W.contains i = false → T' i = T i
theorem Kp.refl (W : List Nat) (T : Nat → PV) : Kp W T T := fun _ _ => rfl
theorem Kp.trans {W : List Nat} {T T1 T2 : Nat → PV} (h : Kp W T T1) (h' : Kp W T1 T2) : Kp W T T2 := fun i hi => (h' i hi).trans (h i hi)
theorem Kp.mono {W W' : List Nat} {T T1 : Nat → PV} (h : Kp W T T1) (hs : ∀ i, W'.contains i = false → W.contains i = false) : Kp W' T T1 := fun i hi => h i (hs i hi)
theorem upd_fr {d : Nat} {v : PV} : Kp [d] T (upd T d v) := by
  intro i hi
  have : i ≠ d := by
    intro e
    subst e
    simp at hi
  exact if_neg this
theorem sts_fr {l : List St1} : ∀ {T H n e s}, sts E dr l T H n = some (e, s) → Kp (wrS l) T s.T := by
  induction l with
  | nil =>
    intro T H n e s h
    simp only [sts] at h
    injection h with h
    injection h with h1 h2
    subst h2
    exact Kp.refl _ _
  | cons x r ih =>
    intro T H n e s h
    simp only [sts] at h
    obtain ⟨y, h1, h2⟩ := bnd_eq_some.1 h
    have hmono : ∀ {T T' : Nat → PV}, Kp (wrS r) T T' → Kp (wrS (x :: r)) T T' := fun h => h.mono (fun i hi => by
      cases x with
      | set d e => simp only [wrS, List.contains_cons, Bool.or_eq_false_iff] at hi; exact hi.2
      | act d g o l =>
        cases d with
        | none => exact hi
        | some d => simp only [wrS, List.contains_cons, Bool.or_eq_false_iff] at hi; exact hi.2
      | _ => exact hi)
    cases y with
    | panic v T1 H1 n1 =>
      simp only at h2
      split at h2
      · cases h2
      · injection h2 with h2
        injection h2 with h3 h4
        subst h4
        cases x with
        | act d g o l =>
          simp only [st1] at h1
          obtain ⟨b, h3, h1⟩ := bnd_eq_some.1 h1
          split at h1
          · obtain ⟨q, h4, h1⟩ := bnd_eq_some.1 h1
            obtain ⟨w, h5, h1⟩ := bnd_eq_some.1 h1
            injection h1 with h1
            unfold afterCall at h1
            split at h1
            · cases h1
            · injection h1 with e1 e2 e3 e4
              subst e2
              exact Kp.refl _ _
          · cases h1
        | set d e =>
          simp only [st1] at h1
          obtain ⟨_, _, h1⟩ := bnd_eq_some.1 h1
          cases h1
        | need g e =>
          simp only [st1] at h1
          obtain ⟨b, _, h1⟩ := bnd_eq_some.1 h1
          split at h1
          · obtain ⟨_, _, h1⟩ := bnd_eq_some.1 h1
            cases h1
          · cases h1
        | tick m => cases h1
    | go T1 H1 n1 =>
      refine Kp.trans ?_ (hmono (ih h2))
      cases x with
      | set d e =>
        simp only [st1] at h1
        obtain ⟨_, _, h1⟩ := bnd_eq_some.1 h1
        injection h1 with h1
        injection h1 with e1 e2 e3
        subst e1
        refine upd_fr.mono (fun i hi => ?_)
        simp only [wrS, List.contains_cons, Bool.or_eq_false_iff] at hi
        simpa using hi.1
      | need g e =>
        simp only [st1] at h1
        obtain ⟨b, _, h1⟩ := bnd_eq_some.1 h1
        split at h1
        · obtain ⟨_, _, h1⟩ := bnd_eq_some.1 h1
          injection h1 with h1
          injection h1 with e1 e2 e3
          subst e1
          exact Kp.refl _ _
        · injection h1 with h1
          injection h1 with e1 e2 e3
          subst e1
          exact Kp.refl _ _
      | tick m =>
        simp only [st1] at h1
        injection h1 with h1
        injection h1 with e1 e2 e3
        subst e1
        exact Kp.refl _ _
      | act d g o l =>
        have put : ∀ v, Kp (wrS (.act d g o l :: r)) T (putT T d v) := by
          intro v
          cases d with
          | none => exact Kp.refl _ _
          | some d =>
            refine upd_fr.mono (fun i hi => ?_)
            simp only [wrS, List.contains_cons, Bool.or_eq_false_iff] at hi
            simpa using hi.1
        simp only [st1] at h1
        obtain ⟨b, h3, h1⟩ := bnd_eq_some.1 h1
        split at h1
        · obtain ⟨q, h4, h1⟩ := bnd_eq_some.1 h1
          obtain ⟨w, h5, h1⟩ := bnd_eq_some.1 h1
          injection h1 with h1
          unfold afterCall at h1
          split at h1
          · injection h1 with e1 e2 e3
            subst e1
            exact put _
          · cases h1
        · injection h1 with h1
          injection h1 with e1 e2 e3
          subst e1
          exact put _
theorem Kp.left {W W' : List Nat} {T T1 : Nat → PV} (h : Kp W T T1) : Kp (W ++ W') T T1 := h.mono (fun i hi => by
  simp only [List.contains_eq_mem, List.mem_append, decide_eq_false_iff_not, not_or] at hi ⊢
  exact hi.1)
theorem Kp.right {W W' : List Nat} {T T1 : Nat → PV} (h : Kp W' T T1) : Kp (W ++ W') T T1 := h.mono (fun i hi => by
  simp only [List.contains_eq_mem, List.mem_append, decide_eq_false_iff_not, not_or] at hi ⊢
  exact hi.2)
theorem Y_fr {c : SC} : ∀ {s e s'}, noOrig c = true → Y E c s = some (e, s') → Kp (wr c) s.T s'.T := by
  induction c with
  | skip => intro s e s' _ h; simp only [Y] at h; injection h with h; injection h with h1 h2; subst h2; exact Kp.refl _ _
  | exit i => intro s e s' _ h; simp only [Y] at h; injection h with h; injection h with h1 h2; subst h2; exact Kp.refl _ _
  | ret => intro s e s' _ h; simp only [Y] at h; injection h with h; injection h with h1 h2; subst h2; exact Kp.refl _ _
  | orig ops => intro s e s' hn; cases hn
  | reg l dr => intro s e s' _ h; simp only [Y] at h; exact sts_fr h
  | regD l chk pre =>
    intro s e s' _ h
    simp only [Y] at h
    obtain ⟨⟨e1, s1⟩, h1, h2⟩ := bnd_eq_some.1 h
    cases e1 with
    | normal =>
      simp only at h2
      split at h2
      · injection h2 with h2
        injection h2 with h3 h4
        subst h4
        exact sts_fr h1
      · cases h2
    | _ => cases h2
  | seq a b iha ihb =>
    intro s e s' hn h
    simp only [noOrig, Bool.and_eq_true] at hn
    simp only [Y] at h
    obtain ⟨⟨e1, s1⟩, h1, h2⟩ := bnd_eq_some.1 h
    have f1 := iha hn.1 h1
    cases e1 with
    | normal => exact Kp.trans (Kp.left f1) (Kp.right (ihb hn.2 h2))
    | _ =>
      simp only at h2
      injection h2 with h2
      injection h2 with h3 h4
      subst h4
      exact Kp.left f1
  | cond x a b iha ihb =>
    intro s e s' hn h
    simp only [noOrig, Bool.and_eq_true] at hn
    simp only [Y] at h
    obtain ⟨v, h1, h2⟩ := bnd_eq_some.1 h
    split at h2
    · split at h2
      · exact Kp.left (iha hn.1 h2)
      · exact Kp.right (ihb hn.2 h2)
    · cases h2
  | block id c ih =>
    intro s e s' hn h
    simp only [Y] at h
    obtain ⟨⟨e1, s1⟩, h1, h2⟩ := bnd_eq_some.1 h
    have f1 := ih hn h1
    cases e1 with
    | _ =>
      simp only at h2
      injection h2 with h2
      injection h2 with h3 h4
      subst h4
      exact f1
  | loop c ih =>
    intro s e s' hn h
    simp only [Y] at h
    obtain ⟨K, hK⟩ := lim_eq.1 h
    have hK := hK K (Nat.le_refl _)
    have key : ∀ (k : Nat) (s : St), loopN (Y E c) k s = some (e, s') → Kp (wr c) s.T s'.T := by
      intro k
      induction k with
      | zero => intro s h; simp [loopN] at h
      | succ k ihk =>
        intro s h
        simp only [loopN] at h
        obtain ⟨⟨e1, s1⟩, h1, h2⟩ := bnd_eq_some.1 h
        have f1 := ih hn h1
        cases e1 with
        | normal => exact Kp.trans f1 (ihk s1 h2)
        | _ =>
          simp only at h2
          injection h2 with h2
          injection h2 with h3 h4
          subst h4
          exact f1
    exact key K s hK
theorem Y_loop_next {c : SC} {s s1 : St} {r : Ex × St} (h : Y E c s = some (.normal, s1)) (h' : Y E (.loop c) s1 = some r) : Y E (.loop c) s = some r := by
  simp only [Y] at h' ⊢
  obtain ⟨N, hN⟩ := lim_eq.1 h'
  refine lim_eq.2 ⟨N + 1, fun n hn => ?_⟩
  obtain ⟨n, rfl⟩ : ∃ i, n = i + 1 := ⟨n - 1, by omega⟩
  simp only [loopN, h, bnd_some]
  exact hN n (by omega)
theorem Y_loop_end {c : SC} {s : St} {r : Ex × St} (h : Y E c s = some r) (hn : r.1 ≠ .normal) : Y E (.loop c) s = some r := by
  simp only [Y]
  refine lim_eq.2 ⟨1, fun n hn' => ?_⟩
  obtain ⟨n, rfl⟩ : ∃ i, n = i + 1 := ⟨n - 1, by omega⟩
  obtain ⟨e, s1⟩ := r
  cases e with
  | normal => exact absurd rfl hn
  | _ => simp only [loopN, h, bnd_some]
/-- What stands behind a round. -/
def nextQ (I : Nat → (Nat → PV) → Ob → Nat → Prop) (k : Nat) (Q : Qt) : Qt := fun e T H n => match e with
  | .normal => ∃ k', k' < k ∧ I k' T H n
  | e => Q e T H n
theorem nextQ_normal {I k} : nextQ I k Q .normal T H n = ∃ k', k' < k ∧ I k' T H n := rfl
theorem nextQ_ret {I k} : nextQ I k Q .ret T H n = Q .ret T H n := rfl
theorem nextQ_exit {I k i} : nextQ I k Q (.exit i) T H n = Q (.exit i) T H n := rfl
@[congr] theorem nextQ_congr {I k e} : nextQ I k Q e T H n = nextQ I k Q e T H n := rfl
/-- A loop: what holds at its head, with at most k rounds to go; the places that it does not turn are as they were. -/
theorem WP_loop {c : SC} (hno : noOrig c = true) (I : Nat → (Nat → PV) → Ob → Nat → Prop) {k0 : Nat} (h0 : I k0 T H n) (h : ∀ k T' H' n', Kp (wr c) T T' → I k T' H' n' → WP E c T' H' n' (nextQ I k Q)) : WP E (.loop c) T H n Q := by
  have key : ∀ (k : Nat) (T' : Nat → PV) (H' : Ob) (n' : Nat), Kp (wr c) T T' → I k T' H' n' → WP E (.loop c) T' H' n' Q := by
    intro k
    induction k using Nat.strongRecOn with
    | _ k ih =>
      intro T' H' n' hf hI
      obtain ⟨e, T1, H1, n1, h1, ho, h2⟩ := h k T' H' n' hf hI
      cases e with
      | normal =>
        obtain ⟨k', hk, hI'⟩ := h2
        obtain ⟨e, T2, H2, n2, h3, ho', h4⟩ := ih k' hk T1 H1 n1 (Kp.trans hf (Y_fr hno h1)) hI'
        exact ⟨e, T2, H2, n2, Y_loop_next h1 h3, ho', h4⟩
      | _ => exact ⟨_, T1, H1, n1, Y_loop_end h1 (by simp), ho, h2⟩
  exact key k0 T H n (Kp.refl _ _) h0

/-! ### functions -/
/-- A function's end, its result by content. -/
def Fin (rs : List MR) (v : PV) : Qt := fun e T H n => (e = .ret ∨ e = .normal) ∧ ∃ vs, resM T H rs = some vs ∧ own 0 H (packR vs) = some v
theorem Fin_ret {rs v} : Fin rs v .ret T H n = WX (resM T H rs) fun vs => own 0 H (packR vs) = some v := by simp [Fin, WX]
theorem Fin_normal {rs v} : Fin rs v .normal T H n = WX (resM T H rs) fun vs => own 0 H (packR vs) = some v := by simp [Fin, WX]
def FinR (rs : List MR) (R : PV → Ob → Nat → Prop) : Qt := fun e T H n => (e = .ret ∨ e = .normal) ∧ ∃ vs, resM T H rs = some vs ∧ R (packR vs) H n
theorem FinR_ret {rs R} : FinR rs R .ret T H n = WX (resM T H rs) fun vs => R (packR vs) H n := by simp [FinR, WX]
theorem FinR_normal {rs R} : FinR rs R .normal T H n = WX (resM T H rs) fun vs => R (packR vs) H n := by simp [FinR, WX]
theorem fn_ok {f : FuncId} {D : List Nat} {nt : Nat} {rs : List MR} {c : SC} {args : List PV} {v : PV} (hf : sF E f D = some ⟨nt, rs, c⟩) (hl : args.length ≤ nt) (h : WP E c (enter args) (Ob.of []) 0 (Fin rs v)) : calL E f args [] = some (.ret v, []) := by
  obtain ⟨e, T1, H1, n1, h1, _, h2, vs, h3, h4⟩ := h
  refine calS_of (r := (.ret (packR vs), H1, n1)) hf hl h1 ?_ ?_ rfl
  · unfold finM
    rcases h2 with e1 | e1 <;> (subst e1; simp only [h3, bnd_some])
  · simp only [ownOut, List.length_nil, h4, bnd_some]
theorem fn_run {f : FuncId} {D : List Nat} {nt : Nat} {rs : List MR} {c : SC} {args : List PV} {R : PV → Ob → Nat → Prop} (hf : sF E f D = some ⟨nt, rs, c⟩) (hl : args.length ≤ nt) (h : WP E c (enter args) H n (FinR rs R)) : ∃ v H1 n1, runL E f args H n = some (.ret v, H1, n1) ∧ R v H1 n1 := by
  obtain ⟨e, T1, H1, n1, h1, _, h2, vs, h3, h4⟩ := h
  refine ⟨packR vs, H1, n1, runS_of hf hl h1 ?_, h4⟩
  unfold finM
  rcases h2 with e1 | e1 <;> (subst e1; simp only [h3, bnd_some])

/-! ### calls -/
def vals (T : Nat → PV) (l : List MX) : List PV := l.map (valX T)
theorem vals_nil : vals T [] = [] := rfl
theorem vals_cons {x r} : vals T (x :: r) = valX T x :: vals T r := rfl
theorem WA_call {f args K} : WA E dr (.call f args) T H n K = WC E dr f (vals T args) H (n + 1) K := rfl
theorem WA_callv {f args K} : WA E dr (.callv f args) T H n K = WV E dr (valX T f) (vals T args) H (n + 1) K := by
  unfold WA WV WC vals
  simp only [actV]
  apply propext
  constructor
  · rintro ⟨v, H1, n1, h, hk⟩
    obtain ⟨c, h1, h2⟩ := bnd_eq_some.1 h
    exact ⟨c, h1, v, H1, n1, h2, hk⟩
  · rintro ⟨c, h1, v, H1, n1, h2, hk⟩
    exact ⟨v, H1, n1, by rw [h1]; exact h2, hk⟩
theorem WA_op {o K} (ho : (match o with | .call _ _ => false | .callv _ _ => false | .panic _ => false | _ => true) = true) : WA E dr o T H n K = WX (mstep o dr T H n) fun r => K r.1 r.2 (n + 1) := by
  have e : actV E dr o T H n = bnd (mstep o dr T H n) fun r => some (.ret r.1, r.2, n + 1) := by
    cases o <;> first | rfl | cases ho
  unfold WA WX
  rw [e]
  apply propext
  constructor
  · rintro ⟨v, H1, n1, h, hk⟩
    obtain ⟨c, h1, h2⟩ := bnd_eq_some.1 h
    injection h2 with h2
    injection h2 with e1 e2
    injection e2 with e2 e3
    injection e1 with e1
    subst e1; subst e2; subst e3
    exact ⟨c, h1, hk⟩
  · rintro ⟨c, h1, hk⟩
    exact ⟨c.1, c.2, n + 1, by rw [h1]; rfl, hk⟩
section
variable {q : Nat → PV} {d : Option Nat} {r : List St1}
/-- A call, and the statements behind it. -/
def WCs (E : Env) (dr : Bool) (f : FuncId) (args : List PV) (H : Ob) (n : Nat) (d : Option Nat) (T : Nat → PV) (r : List St1) (Q : Qt) : Prop := WC E dr f args H n fun v H1 n1 => WS E dr r (putT T d v) H1 n1 Q
def WVs (E : Env) (dr : Bool) (f : PV) (args : List PV) (H : Ob) (n : Nat) (d : Option Nat) (T : Nat → PV) (r : List St1) (Q : Qt) : Prop := WV E dr f args H n fun v H1 n1 => WS E dr r (putT T d v) H1 n1 Q
/-- An append, and the statements behind it. -/
def WApp (E : Env) (dr : Bool) (e : TypeId) (sz : Nat) (s x : PV) (H : Ob) (n : Nat) (d : Option Nat) (T : Nat → PV) (r : List St1) (Q : Qt) : Prop := WX (appendM e sz H n s x) fun p => WS E dr r (putT T d p.1) p.2 (n + 1) Q
theorem WB_call {f args} : WB E dr (.call f args) q H n d T r Q = WCs E dr f (vals q args) H (n + 1) d T r Q := rfl
theorem WB_callv {f args} : WB E dr (.callv f args) q H n d T r Q = WVs E dr (valX q f) (vals q args) H (n + 1) d T r Q := WA_callv
theorem WB_box {t x} : WB E dr (.box t x) q H n d T r Q = WX (boxO H n t (valX q x)) fun p => WS E dr r (putT T d p.1) p.2 (n + 1) Q := WA_op rfl
theorem WB_alloc {t z} : WB E dr (.alloc t z) q H n d T r Q = WS E dr r (putT T d (.ptr n 0)) (H.set n (.box t (z.map .s))) (n + 1) Q := by
  unfold WB
  rw [WA_op rfl]
  exact WX_some
theorem WX_unit {o : Option Ob} {K : PV × Ob → Prop} : WX (unitR o) K = WX o fun H => K (.undef, H) := by
  unfold unitR
  rw [WX_bnd]
  simp only [WX_some]
theorem WB_store {sz a x} : WB E dr (.store sz a x) q H n d T r Q = WX (storeM sz H (valX q a) (valX q x)) fun H1 => WS E dr r (putT T d .undef) H1 (n + 1) Q := by
  unfold WB
  rw [WA_op rfl]
  exact WX_unit
theorem WB_conv {k x} : WB E dr (.conv k x) q H n d T r Q = WX (convM k H n (valX q x)) fun p => WS E dr r (putT T d p.1) p.2 (n + 1) Q := WA_op rfl
theorem WB_app {e sz s x} : WB E dr (.app e sz s x) q H n d T r Q = WApp E dr e sz (valX q s) (valX q x) H n d T r Q := WA_op rfl
theorem WB_mkm : WB E dr .mkm q H n d T r Q = WS E dr r (putT T d (.map n)) (H.set n (.map [])) (n + 1) Q := by
  unfold WB
  rw [WA_op rfl]
  exact WX_some
theorem WB_mupd {kt m k x} : WB E dr (.mupd kt m k x) q H n d T r Q = WX (mupdM kt H (valX q m) (valX q k) (valX q x)) fun H1 => WS E dr r (putT T d .undef) H1 (n + 1) Q := by
  unfold WB
  rw [WA_op rfl]
  exact WX_unit
theorem WB_mks {e sz z l c} : WB E dr (.mks e sz z l c) q H n d T r Q = WX (mksM e sz z H n (valX q l) (valX q c)) fun p => WS E dr r (putT T d p.1) p.2 (n + 1) Q := WA_op rfl
theorem WB_rows {sz z m ps} : WB E dr (.rows sz z m ps) q H n d T r Q = WX (mstep (.rows sz z m ps) dr q H n) fun p => WS E dr r (putT T d p.1) p.2 (n + 1) Q := WA_op rfl
end
/-! numbers, texts, truth values -/
theorem bi_add {k a b} : binM .add .num (.s (.int k a)) (.s (.int k b)) = some (.s (.int k (k.wrap (a + b)))) := by simp [binM, binInt]
theorem bi_sub {k a b} : binM .sub .num (.s (.int k a)) (.s (.int k b)) = some (.s (.int k (k.wrap (a - b)))) := by simp [binM, binInt]
theorem bi_mul {k a b} : binM .mul .num (.s (.int k a)) (.s (.int k b)) = some (.s (.int k (k.wrap (a * b)))) := by simp [binM, binInt]
theorem bi_quo {k a b} : binM .quo .num (.s (.int k a)) (.s (.int k b)) = gd (b ≠ 0) (.s (.int k (k.wrap (a.tdiv b)))) := by
  by_cases h : b = 0 <;> simp [binM, binInt, gd, h]
theorem bi_rem {k a b} : binM .rem .num (.s (.int k a)) (.s (.int k b)) = gd (b ≠ 0) (.s (.int k (a.tmod b))) := by
  by_cases h : b = 0 <;> simp [binM, binInt, gd, h]
theorem bi_eql {k a b} : binM .eql .num (.s (.int k a)) (.s (.int k b)) = some (.s (.bool (decide (a = b)))) := by simp [binM, binInt]
theorem bi_neq {k a b} : binM .neq .num (.s (.int k a)) (.s (.int k b)) = some (.s (.bool (!decide (a = b)))) := by simp [binM, binInt]
theorem bi_lss {k a b} : binM .lss .num (.s (.int k a)) (.s (.int k b)) = some (.s (.bool (decide (a < b)))) := by simp [binM, binInt]
theorem bi_leq {k a b} : binM .leq .num (.s (.int k a)) (.s (.int k b)) = some (.s (.bool (decide (a ≤ b)))) := by simp [binM, binInt]
theorem bi_gtr {k a b} : binM .gtr .num (.s (.int k a)) (.s (.int k b)) = some (.s (.bool (decide (b < a)))) := by simp [binM, binInt]
theorem bi_geq {k a b} : binM .geq .num (.s (.int k a)) (.s (.int k b)) = some (.s (.bool (decide (b ≤ a)))) := by simp [binM, binInt]
theorem bs_eql {a b} : binM .eql .num (.s (.str a)) (.s (.str b)) = some (.s (.bool (decide (a = b)))) := by simp [binM, binStr]
theorem bs_neq {a b} : binM .neq .num (.s (.str a)) (.s (.str b)) = some (.s (.bool (!decide (a = b)))) := by simp [binM, binStr]
theorem bs_lss {a b} : binM .lss .num (.s (.str a)) (.s (.str b)) = some (.s (.bool (bytesLt a b))) := by simp [binM, binStr]
theorem bb_eql {a b} : binM .eql .bool (.s (.bool a)) (.s (.bool b)) = some (.s (.bool (a == b))) := by simp [binM, eqM]
theorem bb_neq {a b} : binM .neq .bool (.s (.bool a)) (.s (.bool b)) = some (.s (.bool (!(a == b)))) := by simp [binM, eqM]
theorem un_not {b} : unOpS .not (.s (.bool b)) = some (.s (.bool (!b))) := rfl
theorem un_neg {k a} : unOpS .neg (.s (.int k a)) = some (.s (.int k (k.wrap (0 - a)))) := rfl
theorem box_st {t : TypeId} {l : List SV} : boxO H n t (.st l) = some (.ptr n 0, H.set n (.box t (l.map .s))) := by
  unfold boxO
  rw [if_pos]
  · rfl
  · simp [PV.st, PV.cells, cellOk]
def loadB (agg : Bool) (sz off : Nat) : HObj → Option PV
  | .box _ cells => loadP agg sz cells off
  | _ => none
theorem load_ptr {agg sz id off} : loadM agg sz H (.ptr id off) = loadB agg sz off (H id) := by
  simp only [loadM]
  cases H id <;> rfl
theorem loadB_box {agg sz off t cells} : loadB agg sz off (.box t cells) = loadP agg sz cells off := rfl
theorem loadP_f {sz off c} : loadP false sz c off = c[off]? := rfl
theorem loadP_t {sz off c} : loadP true sz c off = if off + sz ≤ c.length then some (.agg ((c.drop off).take sz)) else none := rfl
theorem loadS_f {sz off} {c : List SV} : loadS false sz c off = bnd c[off]? fun v => some (.s v) := by
  unfold loadS
  cases c[off]? <;> rfl
theorem loadS_t {sz off} {c : List SV} : loadS true sz c off = if off + sz ≤ c.length then some (.st ((c.drop off).take sz)) else none := rfl
theorem fa_ptr {o id off} : fieldAM o H (.ptr id off) = some (.ptr id (off + o)) := rfl
def storeB (sz off : Nat) (x : PV) (H : Ob) (id : Nat) : HObj → Option Ob
  | .box ty cells => if x.cells.length = sz ∧ off + sz ≤ cells.length ∧ x.cells.all cellOk = true then some (H.set id (.box ty (setCells cells off x.cells))) else none
  | _ => none
theorem store_ptr {sz id off x} : storeM sz H (.ptr id off) x = storeB sz off x H id (H id) := by
  simp only [storeM]
  cases H id <;> rfl
theorem storeB_box {sz off x id ty cells} : storeB sz off x H id (.box ty cells) = if x.cells.length = sz ∧ off + sz ≤ cells.length ∧ x.cells.all cellOk = true then some (H.set id (.box ty (setCells cells off x.cells))) else none := rfl
theorem WC_own {f : FuncId} {args a : List PV} {H1 : Ob} {v : PV} {K : PV → Ob → Nat → Prop} (hr : E.ref f = false) (hl : lendL H args = some (a, H1)) (hi : idbL a = 0) (hd : dr = true → args.all (fzA H) = true) (hc : calL E f a [] = some (.ret v, [])) (hk : K v H1 n) : WC E dr f args H n K := by
  refine ⟨v, H1, n, ?_, hk⟩
  unfold doCall
  rw [hr, hl]
  simp only [Bool.false_eq_true, if_false, bnd_some, hi]
  have h1 : ¬ (dr = true ∧ args.all (fzA H) = false) := fun h => by rw [hd h.1] at h; cases h.2
  rw [if_neg h1]
  have h2 : (0 ≤ n ∧ ((firstO H1 0).all fun o => decide (idbO o ≤ 0)) = true) := ⟨Nat.zero_le _, rfl⟩
  rw [if_pos h2]
  simp only [firstO, hc, bnd_some, if_true]
theorem WC_ref {f : FuncId} {args : List PV} {R K : PV → Ob → Nat → Prop} (hr : E.ref f = true) (hd : dr = false) (hc : ∃ v H1 n1, runL E f args H n = some (.ret v, H1, n1) ∧ R v H1 n1) (hk : ∀ v H1 n1, R v H1 n1 → K v H1 n1) : WC E dr f args H n K := by
  obtain ⟨v, H1, n1, h1, h2⟩ := hc
  refine ⟨v, H1, n1, ?_, hk v H1 n1 h2⟩
  unfold doCall
  rw [hr, hd]
  simp only [if_true, Bool.false_eq_true, if_false]
  exact h1
end
/-! ### freezing ahead of a drawn region -/
def frz1 (H : Ob) : PV → Ob
  | .hsl id _ _ _ => freeze1 H id
  | _ => H
theorem frz_nil {T : Nat → PV} {H : Ob} : frz T [] H = H := rfl
theorem frz_cons {T : Nat → PV} {H : Ob} {t : Nat} {r : List Nat} : frz T (t :: r) H = frz T r (frz1 H (T t)) := by
  simp only [frz]
  congr 1
theorem frz1_s {H : Ob} {v : SV} : frz1 H (.s v) = H := rfl
theorem frz1_ptr {H : Ob} {id off : Nat} : frz1 H (.ptr id off) = H := rfl
theorem frz1_agg {H : Ob} {l : List PV} : frz1 H (.agg l) = H := rfl
theorem frz1_func {H : Ob} {f a b} : frz1 H (.func f a b) = H := rfl
theorem frz1_st {H : Ob} {l : List SV} : frz1 H (.st l) = H := rfl
end Go.Vm
