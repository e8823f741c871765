/- To reckon with statements: what must hold ahead for something to hold behind. -/
import Derived.Test.YtfgkhgkgaedcmaaGreatVmGH
section
set_option linter.unusedVariables false
set_option linter.unusedSimpArgs false
namespace Go.Vm

/-! ### values that may be lacking -/
/-- A value where something holds. -/
def gd {α : Type} (D : Prop) [Decidable D] (v : α) : Option α := if D then some v else none
theorem gd_true {α : Type} {D : Prop} [Decidable D] {v : α} (h : D) : gd D v = some v := if_pos h
theorem gd_True {α : Type} {v : α} [Decidable True] : gd True v = some v := if_pos trivial
theorem bnd_gd {α β : Type} {D : Prop} [Decidable D] {v : α} {f : α → Option β} : bnd (gd D v) f = if D then f v else none := by unfold gd; split <;> rfl
theorem if_gd {α : Type} {D D' : Prop} [Decidable D] [Decidable D'] {v : α} : (if D then gd D' v else none) = gd (D ∧ D') v := by
  unfold gd
  by_cases h : D <;> by_cases h' : D' <;> simp [h, h']
theorem if_some {α : Type} {D : Prop} [Decidable D] {v : α} : (if D then some v else none) = gd D v := rfl
def WX {α : Type} (o : Option α) (K : α → Prop) : Prop := ∃ v, o = some v ∧ K v
theorem WX_some {α : Type} {v : α} {K : α → Prop} : WX (some v) K = K v := by
  apply propext
  constructor
  · rintro ⟨w, h, hk⟩
    injection h with h
    rw [h]; exact hk
  · intro h; exact ⟨v, rfl, h⟩
theorem WX_gd {α : Type} {D : Prop} [Decidable D] {v : α} {K : α → Prop} : WX (gd D v) K = (D ∧ K v) := by
  apply propext
  unfold gd
  constructor
  · rintro ⟨w, h, hk⟩
    split at h
    · rename_i hD
      injection h with h
      rw [h]; exact ⟨hD, hk⟩
    · cases h
  · rintro ⟨hD, h⟩
    exact ⟨v, if_pos hD, h⟩
theorem WX_bnd {α β : Type} {o : Option α} {f : α → Option β} {K : β → Prop} : WX (bnd o f) K = WX o (fun v => WX (f v) K) := by
  apply propext
  constructor
  · rintro ⟨w, h, hk⟩
    obtain ⟨a, h1, h2⟩ := bnd_eq_some.1 h
    exact ⟨a, h1, w, h2, hk⟩
  · rintro ⟨a, h1, w, h2, hk⟩
    exact ⟨w, by rw [h1]; exact h2, hk⟩
@[congr] theorem WX_congr {α : Type} {o o' : Option α} {K : α → Prop} (h : o = o') : WX o K = WX o' K := by rw [h]

/-! ### expressions -/
noncomputable def evO (o : MOp) (T : Nat → PV) (H : Ob) : Option PV := bnd (mstep o false T H 0) fun r => some r.1
theorem pureR_fst {H : Ob} {v : Option PV} : (bnd (pureR H v) fun r => some r.1) = v := by cases v <;> rfl
theorem evX_x {T H m} : evX T H (.x m) = some (valX T m) := by simp only [evX]
theorem evX_op {T H o l} : evX T H (.op o l) = bnd (evS T H l) fun q => evO o (over T q) H := by simp only [evX]; rfl
def asB : PV → Option Bool
  | .s (.bool t) => some t
  | _ => none
theorem asB_bool {t : Bool} : asB (.s (.bool t)) = some t := rfl
theorem evX_pick {T H c a b} : evX T H (.pick c a b) = bnd (evX T H c) fun v => bnd (asB v) fun t => if t = true then evX T H a else evX T H b := by
  simp only [evX]
  cases evX T H c with
  | none => rfl
  | some v =>
    cases v with
    | s v => cases v <;> rfl
    | _ => rfl
theorem evS_nil {T H} : evS T H [] = some [] := by simp only [evS]
theorem evS_cons {T H i e r} : evS T H ((i, e) :: r) = bnd (evX T H e) fun v => bnd (evS T H r) fun q => some ((i, v) :: q) := by simp only [evS]
theorem evO_load {agg sz a T H} : evO (.load agg sz a) T H = loadM agg sz H (valX T a) := pureR_fst
theorem evO_chk {a T H} : evO (.chk a) T H = nilCheckV (valX T a) := pureR_fst
theorem evO_bin {op k x y T H} : evO (.bin op k x y) T H = binM op k (valX T x) (valX T y) := pureR_fst
theorem evO_un {op x T H} : evO (.un op x) T H = unOpS op (valX T x) := pureR_fst
theorem evO_sl {k x l h T H} : evO (.sl k x l h) T H = sliceM k H (valX T x) (valM T l) (valM T h) := pureR_fst
theorem evO_fa {o x T H} : evO (.fa o x) T H = fieldAM o H (valX T x) := pureR_fst
theorem evO_fv {o agg sz x T H} : evO (.fv o agg sz x) T H = fieldVM o agg sz (valX T x) := pureR_fst
theorem evO_ia {k x i T H} : evO (.ia k x i) T H = indexAM k H (valX T x) (valX T i) := pureR_fst
theorem evO_iv {k x i T H} : evO (.iv k x i) T H = indexVM k (valX T x) (valX T i) := pureR_fst
theorem evO_look {kt z ok m k T H} : evO (.look kt z ok m k) T H = lookM kt z ok H (valX T m) (valX T k) := pureR_fst
theorem evO_ta {t ok x T H} : evO (.ta t ok x) T H = tassertM t ok (valX T x) := pureR_fst
theorem evO_ext {x i T H} : evO (.ext x i) T H = extractV i (valX T x) := pureR_fst
theorem evO_len {k x T H} : evO (.len k x) T H = lenM k H (valX T x) := pureR_fst
theorem evO_mx {b x r T H} : evO (.mx b x r) T H = maxMin b (valX T x) (r.map (valX T)) := pureR_fst
theorem evO_ifc {t x T H} : evO (.ifc t x) T H = some (ifaceM t (valX T x)) := rfl
def valsX (T : Nat → PV) (l : List MX) : List PV := l.map (valX T)
theorem valsX_nil {T} : valsX T [] = [] := rfl
theorem valsX_cons {T x r} : valsX T (x :: r) = valX T x :: valsX T r := rfl
theorem evO_mkf {f a b T H} : evO (.mkf f a b) T H = some (.func f (valsX T a) (valsX T b)) := rfl
theorem evO_build {z ps T H} : evO (.build z ps) T H = bnd (buildM (z.map .s) (ps.map fun x => (x.1, x.2.1, valX T x.2.2))) fun c => some (.agg c) := by
  unfold evO
  simp only [mstep]
  cases buildM (z.map .s) (ps.map fun x => (x.1, x.2.1, valX T x.2.2)) <;> rfl
theorem evO_convI {k x T H} : evO (.conv (.int k) x) T H = match valX T x with
    | .s (.int _ n) => some (.s (.int k (k.wrap n)))
    | _ => none := by
  unfold evO
  simp only [mstep]
  cases valX T x with
  | s v => cases v <;> rfl
  | _ => rfl
theorem evO_convS {b x T H} : evO (.conv (.str b) x) T H = bnd (convM (.str b) H 0 (valX T x)) fun r => some r.1 := rfl
theorem valX_t {T i} : valX T (.t i) = T i := rfl
theorem valX_c {T p} : valX T (.c p) = p := rfl
theorem over_nil {T} : over T [] = T := rfl
theorem over_cons {T i v r} : over T ((i, v) :: r) = upd (over T r) i v := rfl
theorem upd_at {T i v j} : upd T i v j = if j = i then v else T j := rfl
theorem set_at {H : Ob} {i o j} : H.set i o j = if j = i then o else H j := rfl
/-- A choice between two answers. -/
theorem pick_ss {t : Bool} {a b : PV} : (if t = true then some a else some b) = some (if t = true then a else b) := by cases t <;> rfl
theorem pick_sg {t : Bool} {a b : PV} {D : Prop} [Decidable D] : (if t = true then some a else gd D b) = gd (t = true ∨ D) (if t = true then a else b) := by cases t <;> simp [gd]
theorem pick_gs {t : Bool} {a b : PV} {D : Prop} [Decidable D] : (if t = true then gd D a else some b) = gd (t = true → D) (if t = true then a else b) := by cases t <;> simp [gd]
theorem pick_gg {t : Bool} {a b : PV} {D D' : Prop} [Decidable D] [Decidable D'] : (if t = true then gd D a else gd D' b) = gd ((t = true → D) ∧ (t = false → D')) (if t = true then a else b) := by cases t <;> simp [gd]
theorem pick_bool {t a b : Bool} : (if t = true then PV.s (.bool a) else PV.s (.bool b)) = PV.s (.bool (if t = true then a else b)) := by cases t <;> rfl
theorem pick_int {t : Bool} {k : IntKind} {a b : Int} : (if t = true then PV.s (.int k a) else PV.s (.int k b)) = PV.s (.int k (if t = true then a else b)) := by cases t <;> rfl
theorem pick_str {t : Bool} {a b : List UInt8} : (if t = true then PV.s (.str a) else PV.s (.str b)) = PV.s (.str (if t = true then a else b)) := by cases t <;> rfl
theorem pick_and {t a : Bool} : (if t = true then a else false) = (t && a) := by cases t <;> rfl
theorem pick_or {t b : Bool} : (if t = true then true else b) = (t || b) := by cases t <;> rfl
/-! ### operations at known shapes -/
theorem indexV_str {l : List UInt8} {k i} : indexVM .str (.s (.str l)) (.s (.int k i)) = gd (0 ≤ i ∧ i < l.length) (.s (.int .u8 (l.getD i.toNat 0).toNat)) := by
  unfold indexVM gd
  simp only
  by_cases h0 : 0 ≤ i
  · by_cases h1 : i < l.length
    · have : i.toNat < l.length := by omega
      simp [h0, h1, List.getD_eq_getElem?_getD, List.getElem?_eq_getElem this]
    · have : l.length ≤ i.toNat := by omega
      simp [h0, h1, List.getElem?_eq_none this]
  · simp [h0]
theorem bounds_eq {n : Nat} {lo hi : Option PV} : True := trivial
theorem bounds_lh {n : Nat} {k k' : IntKind} {l h : Int} : bounds n (some (.s (.int k l))) (some (.s (.int k' h))) = gd (0 ≤ l ∧ l ≤ h ∧ h ≤ n) (l.toNat, h.toNat) := by
  unfold bounds gd
  by_cases h1 : 0 ≤ h ∧ h ≤ n
  · simp only [if_pos h1]
    by_cases h2 : 0 ≤ l ∧ l ≤ h.toNat
    · have : 0 ≤ l ∧ l ≤ h ∧ h ≤ n := by omega
      rw [if_pos h2, if_pos this]
    · have : ¬ (0 ≤ l ∧ l ≤ h ∧ h ≤ n) := by omega
      rw [if_neg h2, if_neg this]
  · have : ¬ (0 ≤ l ∧ l ≤ h ∧ h ≤ n) := by omega
    simp only [if_neg h1, if_neg this]
theorem bounds_h {n : Nat} {k' : IntKind} {h : Int} : bounds n none (some (.s (.int k' h))) = gd (0 ≤ h ∧ h ≤ n) (0, h.toNat) := by
  unfold bounds gd
  by_cases h1 : 0 ≤ h ∧ h ≤ n <;> simp only [h1, if_true, if_false, and_self]
theorem bounds_l {n : Nat} {k : IntKind} {l : Int} : bounds n (some (.s (.int k l))) none = gd (0 ≤ l ∧ l ≤ n) (l.toNat, n) := by
  unfold bounds gd
  simp only
theorem bounds_n {n : Nat} : bounds n none none = some (0, n) := rfl
theorem slice_str {H : Ob} {l : List UInt8} {lo hi : Option PV} : sliceM .str H (.s (.str l)) lo hi = bnd (bounds l.length lo hi) fun r => some (.s (.str ((l.take r.2).drop r.1))) := by
  simp only [sliceM]
  cases bounds l.length lo hi <;> rfl
theorem add_str {a b : List UInt8} : binM .add .num (.s (.str a)) (.s (.str b)) = gd (a.length + b.length ≤ 9223372036854775807) (.s (.str (a ++ b))) := by
  unfold binM binStr gd
  by_cases h : a.length + b.length ≤ 9223372036854775807 <;> simp [h]
/-- A slice that is only read. -/
inductive Slc (α : Type) where
  | nil
  | mk (l : List α) (full : Bool)
  deriving Inhabited
def Slc.l {α : Type} : Slc α → List α
  | .nil => []
  | .mk l _ => l
def Slc.sv {α : Type} (f : α → List SV) : Slc α → SV
  | .nil => .nils
  | .mk l full => .slice (l.map f) full
theorem len_sv {α : Type} {f : α → List SV} {s : Slc α} {k : Nat} {H : Ob} : lenM (.sl k) H (.s (s.sv f)) = some (.i64 s.l.length) := by
  cases s with
  | nil => rfl
  | mk l full => simp [lenM, Slc.sv, Slc.l]
theorem len_slice {es : List (List SV)} {full : Bool} {k : Nat} {H : Ob} : lenM (.sl k) H (.s (.slice es full)) = some (.i64 es.length) := rfl
theorem len_nils {k : Nat} {H : Ob} : lenM (.sl k) H (.s .nils) = some (.i64 0) := rfl
theorem len_str {l : List UInt8} {H : Ob} : lenM .str H (.s (.str l)) = some (.i64 l.length) := rfl
theorem ia_sv {α : Type} {f : α → List SV} {s : Slc α} {size : Nat} {H : Ob} {k : IntKind} {i : Int} (hf : ∀ x, (f x).length = size) (hs : 0 < size) : indexAM (.sl size) H (.s (s.sv f)) (.s (.int k i)) = gd (0 ≤ i ∧ i < s.l.length) (.eptr (s.l.map f) i.toNat 0) := by
  unfold gd
  cases s with
  | nil =>
    have : ¬ (0 ≤ i ∧ i < ((Slc.nil : Slc α).l.length : Int)) := by
      show ¬ (0 ≤ i ∧ i < ((0 : Nat) : Int))
      omega
    rw [if_neg this]
    rfl
  | mk l full =>
    simp only [Slc.sv, Slc.l, indexAM, List.getElem?_map]
    by_cases h0 : 0 ≤ i
    · by_cases h1 : i < l.length
      · have : i.toNat < l.length := by omega
        simp [h0, h1, List.getElem?_eq_getElem this, hf, hs]
      · have : l.length ≤ i.toNat := by omega
        simp [h0, h1, List.getElem?_eq_none this]
    · simp [h0]
theorem fa_eptr {es i off o} {H : Ob} : fieldAM o H (.eptr es i off) = some (.eptr es i (off + o)) := rfl
theorem load_eptr {α : Type} [Inhabited α] {f : α → List SV} {l : List α} {i off sz : Nat} {agg : Bool} {H : Ob} : loadM agg sz H (.eptr (l.map f) i off) = if i < l.length then loadS agg sz (f (l.getD i default)) off else none := by
  simp only [loadM, List.getElem?_map]
  by_cases h : i < l.length
  · simp [h, List.getElem?_eq_getElem h, List.getD_eq_getElem?_getD]
  · simp [h, List.getElem?_eq_none (Nat.le_of_not_lt h)]

/-! ### statements -/
abbrev Qt := Ex → (Nat → PV) → Ob → Nat → Prop
def Ex.ok : Ex → Bool
  | .panic _ => false
  | _ => true
def WS (E : Env) (dr : Bool) (l : List St1) (T : Nat → PV) (H : Ob) (n : Nat) (Q : Qt) : Prop := ∃ e T1 H1 n1, sts E dr l T H n = some (e, ⟨T1, H1, n1⟩) ∧ e.ok = true ∧ Q e T1 H1 n1
def WP (E : Env) (c : SC) (T : Nat → PV) (H : Ob) (n : Nat) (Q : Qt) : Prop := ∃ e T1 H1 n1, Y E c ⟨T, H, n⟩ = some (e, ⟨T1, H1, n1⟩) ∧ e.ok = true ∧ Q e T1 H1 n1
def WC (E : Env) (dr : Bool) (f : FuncId) (args : List PV) (H : Ob) (n : Nat) (K : PV → Ob → Nat → Prop) : Prop := ∃ v H1 n1, doCall E (calL E) (runL E) dr f args H n = some (.ret v, H1, n1) ∧ K v H1 n1
def WV (E : Env) (dr : Bool) (f : PV) (args : List PV) (H : Ob) (n : Nat) (K : PV → Ob → Nat → Prop) : Prop := ∃ c, callee f = some c ∧ WC E dr c.1 (c.2.1 ++ args ++ c.2.2) H n K
@[congr] theorem WS_congr {E dr l T H n Q} : WS E dr l T H n Q = WS E dr l T H n Q := rfl
@[congr] theorem WP_congr {E c T H n Q} : WP E c T H n Q = WP E c T H n Q := rfl
@[congr] theorem WC_congr {E dr f a a' H H' n n' K} (h : a = a') (h1 : H = H') (h2 : n = n') : WC E dr f a H n K = WC E dr f a' H' n' K := by rw [h, h1, h2]
@[congr] theorem WV_congr {E dr f f' a a' H H' n n' K} (h0 : f = f') (h : a = a') (h1 : H = H') (h2 : n = n') : WV E dr f a H n K = WV E dr f' a' H' n' K := by rw [h0, h, h1, h2]
section
variable {E : Env} {dr : Bool} {T : Nat → PV} {H : Ob} {n : Nat} {Q : Qt}

theorem WS_nil : WS E dr [] T H n Q = Q .normal T H n := by
  apply propext
  constructor
  · rintro ⟨e, T1, H1, n1, h, _, hq⟩
    simp only [sts] at h
    injection h with h
    injection h with h1 h2
    injection h2 with h2 h3 h4
    subst h1; subst h2; subst h3; subst h4
    exact hq
  · intro h; exact ⟨_, _, _, _, rfl, rfl, h⟩
theorem WS_set {d e r} : WS E dr (.set d e :: r) T H n Q = WX (evX T H e) fun v => WS E dr r (upd T d v) H n Q := by
  unfold WS WX
  simp only [sts, st1]
  cases evX T H e with
  | none => simp only [bnd_none]; apply propext; constructor <;> (intro h; simp at h)
  | some v => simp only [bnd_some]; apply propext; constructor <;> (intro h; simpa using h)
theorem WS_tick {m r} : WS E dr (.tick m :: r) T H n Q = WS E dr r T H (n + m) Q := by
  unfold WS
  simp only [sts, st1, bnd_some]
theorem WS_need {e r} : WS E dr (.need [] e :: r) T H n Q = WX (evX T H e) fun _ => WS E dr r T H n Q := by
  unfold WS WX
  simp only [sts, st1, evG, bnd_some, if_true]
  cases evX T H e with
  | none => simp only [bnd_none]; apply propext; constructor <;> (intro h; simp at h)
  | some v => simp only [bnd_some]; apply propext; constructor <;> (intro h; simpa using h)
/-- Whether a condition's value is the wanted one; a place that was passed over holds none. -/
def gB (v : PV) (w : Bool) : Bool := match v with
  | .s (.bool b) => b == w
  | _ => false
theorem gB_bool {b w : Bool} : gB (.s (.bool b)) w = (b == w) := rfl
theorem gB_undef {w : Bool} : gB .undef w = false := rfl
/-- Conditions ahead of an operation. -/
def WG (T : Nat → PV) (H : Ob) : List (Xp × Bool) → (Bool → Prop) → Prop
  | [], K => K true
  | (e, w) :: r, K => WX (evX T H e) fun v => if gB v w = true then WG T H r K else K false
@[congr] theorem WG_congr {g K} : WG T H g K = WG T H g K := rfl
theorem WG_nil {K} : WG T H [] K = K true := rfl
theorem WG_cons {e w r K} : WG T H ((e, w) :: r) K = WX (evX T H e) fun v => if gB v w = true then WG T H r K else K false := rfl
theorem WG_spec {K : Bool → Prop} : ∀ {g : List (Xp × Bool)}, WG T H g K = WX (evG T H g) K
  | [] => by simp only [WG, evG, WX_some]
  | (e, w) :: r => by
    simp only [WG, evG, WX_bnd]
    congr 1
    funext v
    cases v with
    | s v =>
      cases v with
      | bool b =>
        rw [gB_bool]
        by_cases hb : (b == w) = true
        · simp only [if_pos hb]
          exact WG_spec
        · simp only [if_neg hb, WX_some]
      | _ => simp [gB, WX]
    | _ => simp [gB, WX]
theorem WS_needG {x g e r} : WS E dr (.need (x :: g) e :: r) T H n Q = WG T H (x :: g) fun b => if b = true then WX (evX T H e) fun _ => WS E dr r T H n Q else WS E dr r T H n Q := by
  rw [WG_spec]
  unfold WS WX
  simp only [sts, st1]
  cases evG T H (x :: g) with
  | none => simp only [bnd_none]; apply propext; constructor <;> (intro h; simp at h)
  | some b =>
    simp only [bnd_some]
    apply propext
    cases b with
    | true =>
      cases evX T H e with
      | none => simp [bnd_none, bnd_some]
      | some v => simp [bnd_none, bnd_some]
    | false => simp [bnd_none, bnd_some]
/-- What an operation does. -/
def WA (E : Env) (dr : Bool) (o : MOp) (T : Nat → PV) (H : Ob) (n : Nat) (K : PV → Ob → Nat → Prop) : Prop := ∃ v H1 n1, actV E dr o T H n = some (.ret v, H1, n1) ∧ K v H1 n1
@[congr] theorem WA_congr {o K} : WA E dr o T H n K = WA E dr o T H n K := rfl
theorem WX_none {α : Type} {K : α → Prop} : WX (none : Option α) K = False := by simp [WX]
/-- An operation, and the statements behind it. -/
def WB (E : Env) (dr : Bool) (o : MOp) (q : Nat → PV) (H : Ob) (n : Nat) (d : Option Nat) (T : Nat → PV) (r : List St1) (Q : Qt) : Prop := WA E dr o q H n fun v H1 n1 => WS E dr r (putT T d v) H1 n1 Q
theorem WS_act {d o l r g} : WS E dr (.act d g o l :: r) T H n Q = WG T H g fun b => if b = true then WX (evS T H l) fun q => WB E dr o (over T q) H n d T r Q else WS E dr r (putT T d .undef) H (n + 1) Q := by
  unfold WB
  rw [WG_spec]
  unfold WS WA
  simp only [sts, st1]
  cases evG T H g with
  | none => simp [bnd_none, WX_none]
  | some b =>
    simp only [bnd_some, WX_some]
    cases b with
    | false => simp [bnd_some]
    | true =>
      simp only [if_true]
      cases evS T H l with
      | none => simp [bnd_none, WX_none]
      | some q =>
        simp only [bnd_some, WX_some]
        cases hA : actV E dr o (over T q) H n with
        | none => simp [bnd_none]
        | some r' =>
          obtain ⟨out, H1, n1⟩ := r'
          apply propext
          cases out with
          | ret v =>
            simp only [bnd_some, afterCall]
            constructor
            · intro h
              exact ⟨v, H1, n1, rfl, h⟩
            · rintro ⟨v', H1', n1', h1, h2⟩
              injection h1 with h1
              injection h1 with e1 e2
              injection e2 with e2 e3
              injection e1 with e1
              subst e1; subst e2; subst e3
              exact h2
          | panic v =>
            simp only [bnd_some, afterCall]
            constructor
            · rintro ⟨e, T1, H2, n2, h, hok, _⟩
              split at h
              · cases h
              · injection h with h
                injection h with h1 h2
                subst h1
                cases hok
            · rintro ⟨v', H1', n1', h1, h2⟩
              injection h1 with h1
              injection h1 with e1 e2
              cases e1
theorem WP_skip : WP E .skip T H n Q = Q .normal T H n := by
  apply propext
  constructor
  · rintro ⟨e, T1, H1, n1, h, _, hq⟩
    simp only [Y] at h
    injection h with h
    injection h with h1 h2
    injection h2 with h2 h3 h4
    subst h1; subst h2; subst h3; subst h4
    exact hq
  · intro h; exact ⟨_, _, _, _, rfl, rfl, h⟩
theorem WP_exit {i} : WP E (.exit i) T H n Q = Q (.exit i) T H n := by
  apply propext
  constructor
  · rintro ⟨e, T1, H1, n1, h, _, hq⟩
    simp only [Y] at h
    injection h with h
    injection h with h1 h2
    injection h2 with h2 h3 h4
    subst h1; subst h2; subst h3; subst h4
    exact hq
  · intro h; exact ⟨_, _, _, _, rfl, rfl, h⟩
theorem WP_ret : WP E .ret T H n Q = Q .ret T H n := by
  apply propext
  constructor
  · rintro ⟨e, T1, H1, n1, h, _, hq⟩
    simp only [Y] at h
    injection h with h
    injection h with h1 h2
    injection h2 with h2 h3 h4
    subst h1; subst h2; subst h3; subst h4
    exact hq
  · intro h; exact ⟨_, _, _, _, rfl, rfl, h⟩
theorem WP_reg {l} : WP E (.reg l dr) T H n Q = WS E dr l T H n Q := by
  unfold WP WS
  simp only [Y]
/-- A drawn region: no two operations touch one object. -/
def chkQ (chk : List (Nat × Nat × List MX × Nat × Nat × List MX)) (n0 : Nat) (Q : Qt) : Qt := fun e T H n => e = .normal ∧ chk.all (heldX T n0) = true ∧ Q .normal T H n
theorem chkQ_normal {chk n0} : chkQ chk n0 Q .normal T H n = (chk.all (heldX T n0) = true ∧ Q .normal T H n) := by simp [chkQ]
theorem WP_regD {l chk pre} : WP E (.regD l chk pre) T H n Q = WS E true l T (frz T pre H) n (chkQ chk n Q) := by
  apply propext
  constructor
  · rintro ⟨e, T1, H1, n1, h, ho, hq⟩
    simp only [Y] at h
    obtain ⟨⟨e1, T2, H2, n2⟩, h1, h2⟩ := bnd_eq_some.1 h
    cases e1 with
    | normal =>
      simp only at h2
      split at h2
      · rename_i hc
        injection h2 with h2
        injection h2 with h3 h4
        injection h4 with h4 h5 h6
        subst h3; subst h4; subst h5; subst h6
        exact ⟨_, _, _, _, h1, rfl, rfl, hc, hq⟩
      · cases h2
    | _ => cases h2
  · rintro ⟨e, T1, H1, n1, h, ho, rfl, hc, hq⟩
    exact ⟨.normal, T1, H1, n1, by simp only [Y, h, bnd_some]; rw [if_pos hc], rfl, hq⟩
/-- Behind a part of the code. -/
def thenQ (E : Env) (b : SC) (Q : Qt) : Qt := fun e T H n => match e with
  | .normal => WP E b T H n Q
  | e => Q e T H n
theorem thenQ_normal {b} : thenQ E b Q .normal T H n = WP E b T H n Q := rfl
theorem thenQ_ret {b} : thenQ E b Q .ret T H n = Q .ret T H n := rfl
theorem thenQ_exit {b i} : thenQ E b Q (.exit i) T H n = Q (.exit i) T H n := rfl
@[congr] theorem thenQ_congr {b e} : thenQ E b Q e T H n = thenQ E b Q e T H n := rfl
theorem WP_seq {a b} : WP E (.seq a b) T H n Q = WP E a T H n (thenQ E b Q) := by
  apply propext
  constructor
  · rintro ⟨e, T1, H1, n1, h, ho, hq⟩
    simp only [Y] at h
    obtain ⟨⟨e1, s1⟩, h1, h2⟩ := bnd_eq_some.1 h
    obtain ⟨T2, H2, n2⟩ := s1
    refine ⟨e1, T2, H2, n2, h1, ?_⟩
    cases e1 with
    | normal => exact ⟨rfl, e, T1, H1, n1, h2, ho, hq⟩
    | _ =>
      simp only at h2
      injection h2 with h2
      injection h2 with h3 h4
      injection h4 with h4 h5 h6
      subst h3; subst h4; subst h5; subst h6
      exact ⟨ho, hq⟩
  · rintro ⟨e1, T2, H2, n2, h1, ho, hq⟩
    cases e1 with
    | normal =>
      obtain ⟨e, T1, H1, n1, h2, ho, hq⟩ := hq
      exact ⟨e, T1, H1, n1, by simp only [Y, h1, bnd_some]; exact h2, ho, hq⟩
    | _ => exact ⟨_, T2, H2, n2, by simp only [Y, h1, bnd_some], ho, hq⟩
theorem WP_cond {x a b} : WP E (.cond x a b) T H n Q = WX (evX T H x) fun v => WX (asB v) fun t => if t = true then WP E a T H n Q else WP E b T H n Q := by
  apply propext
  unfold WP
  constructor
  · rintro ⟨e, T1, H1, n1, h, ho, hq⟩
    simp only [Y] at h
    obtain ⟨v, h1, h2⟩ := bnd_eq_some.1 h
    split at h2
    · rename_i t
      refine ⟨_, h1, t, rfl, ?_⟩
      cases t with
      | true => exact ⟨e, T1, H1, n1, h2, ho, hq⟩
      | false => exact ⟨e, T1, H1, n1, h2, ho, hq⟩
    · cases h2
  · rintro ⟨v, h1, t, h2, h⟩
    have hv : v = .s (.bool t) := by
      cases v with
      | s v => cases v <;> simp [asB] at h2; rw [h2]
      | _ => simp [asB] at h2
    subst hv
    cases t with
    | true =>
      obtain ⟨e, T1, H1, n1, h3, ho, hq⟩ := h
      exact ⟨e, T1, H1, n1, by simp only [Y, h1, bnd_some]; exact h3, ho, hq⟩
    | false =>
      obtain ⟨e, T1, H1, n1, h3, ho, hq⟩ := h
      exact ⟨e, T1, H1, n1, by simp only [Y, h1, bnd_some]; exact h3, ho, hq⟩
def blkQ (id : Nat) (Q : Qt) : Qt := fun e T H n => match e with
  | .exit i => if i = id then Q .normal T H n else Q (.exit i) T H n
  | e => Q e T H n
theorem blkQ_normal {id} : blkQ id Q .normal T H n = Q .normal T H n := rfl
theorem blkQ_ret {id} : blkQ id Q .ret T H n = Q .ret T H n := rfl
theorem blkQ_exit {id i} : blkQ id Q (.exit i) T H n = if i = id then Q .normal T H n else Q (.exit i) T H n := rfl
@[congr] theorem blkQ_congr {id e} : blkQ id Q e T H n = blkQ id Q e T H n := rfl
theorem WP_block {id c} : WP E (.block id c) T H n Q = WP E c T H n (blkQ id Q) := by
  apply propext
  constructor
  · rintro ⟨e, T1, H1, n1, h, ho, hq⟩
    simp only [Y] at h
    obtain ⟨⟨e1, s1⟩, h1, h2⟩ := bnd_eq_some.1 h
    obtain ⟨T2, H2, n2⟩ := s1
    refine ⟨e1, T2, H2, n2, h1, ?_⟩
    cases e1 with
    | exit i =>
      simp only at h2
      injection h2 with h2
      injection h2 with h3 h4
      injection h4 with h4 h5 h6
      subst h3; subst h4; subst h5; subst h6
      refine ⟨rfl, ?_⟩
      simp only [blkQ]
      split
      · rename_i hi; rw [if_pos hi] at hq; exact hq
      · rename_i hi; rw [if_neg hi] at hq; exact hq
    | _ =>
      simp only at h2
      injection h2 with h2
      injection h2 with h3 h4
      injection h4 with h4 h5 h6
      subst h3; subst h4; subst h5; subst h6
      exact ⟨ho, hq⟩
  · rintro ⟨e1, T2, H2, n2, h1, ho, hq⟩
    cases e1 with
    | exit i =>
      simp only [blkQ] at hq
      by_cases hi : i = id
      · rw [if_pos hi] at hq
        exact ⟨.normal, T2, H2, n2, by simp only [Y, h1, bnd_some, if_pos hi], rfl, hq⟩
      · rw [if_neg hi] at hq
        exact ⟨.exit i, T2, H2, n2, by simp only [Y, h1, bnd_some, if_neg hi], rfl, hq⟩
    | _ => exact ⟨_, T2, H2, n2, by simp only [Y, h1, bnd_some], ho, hq⟩

/-! ### the places that code turns -/
def wrS : List St1 → List Nat
  | [] => []
  | .set d _ :: r => d :: wrS r
  | .act (some d) _ _ _ :: r => d :: wrS r
  | _ :: r => wrS r
def wr : SC → List Nat
  | .reg l _ => wrS l
  | .regD l _ _ => wrS l
  | .seq a b => wr a ++ wr b
  | .cond _ a b => wr a ++ wr b
  | .block _ c => wr c
  | .loop c => wr c
  | _ => []
def noOrig : SC → Bool
  | .orig _ => false
  | .seq a b => noOrig a && noOrig b
  | .cond _ a b => noOrig a && noOrig b
  | .block _ c => noOrig c
  | .loop c => noOrig c
  | _ => true
def Kp (W : List Nat) (T T' : Nat → PV) : Prop := ∀ i, W.contains i = false → T' i = T i
theorem Kp.refl (W : List Nat) (T : Nat → PV) : Kp W T T := fun _ _ => rfl
theorem Kp.trans {W : List Nat} {T T1 T2 : Nat → PV} (h : Kp W T T1) (h' : Kp W T1 T2) : Kp W T T2 := fun i hi => (h' i hi).trans (h i hi)
theorem Kp.mono {W W' : List Nat} {T T1 : Nat → PV} (h : Kp W T T1) (hs : ∀ i, W'.contains i = false → W.contains i = false) : Kp W' T T1 := fun i hi => h i (hs i hi)
theorem upd_fr {d : Nat} {v : PV} : Kp [d] T (upd T d v) := by
  intro i hi
  have : i ≠ d := by
    intro e
    subst e
    simp at hi
  exact if_neg this
theorem sts_fr {l : List St1} : ∀ {T H n e s}, sts E dr l T H n = some (e, s) → Kp (wrS l) T s.T := by
  induction l with
  | nil =>
    intro T H n e s h
    simp only [sts] at h
    injection h with h
    injection h with h1 h2
    subst h2
    exact Kp.refl _ _
  | cons x r ih =>
    intro T H n e s h
    simp only [sts] at h
    obtain ⟨y, h1, h2⟩ := bnd_eq_some.1 h
    have hmono : ∀ {T T' : Nat → PV}, Kp (wrS r) T T' → Kp (wrS (x :: r)) T T' := fun h => h.mono (fun i hi => by
      cases x with
      | set d e => simp only [wrS, List.contains_cons, Bool.or_eq_false_iff] at hi; exact hi.2
      | act d g o l =>
        cases d with
        | none => exact hi
        | some d => simp only [wrS, List.contains_cons, Bool.or_eq_false_iff] at hi; exact hi.2
      | _ => exact hi)
    cases y with
    | panic v T1 H1 n1 =>
      simp only at h2
      split at h2
      · cases h2
      · injection h2 with h2
        injection h2 with h3 h4
        subst h4
        cases x with
        | act d g o l =>
          simp only [st1] at h1
          obtain ⟨b, h3, h1⟩ := bnd_eq_some.1 h1
          split at h1
          · obtain ⟨q, h4, h1⟩ := bnd_eq_some.1 h1
            obtain ⟨w, h5, h1⟩ := bnd_eq_some.1 h1
            injection h1 with h1
            unfold afterCall at h1
            split at h1
            · cases h1
            · injection h1 with e1 e2 e3 e4
              subst e2
              exact Kp.refl _ _
          · cases h1
        | set d e =>
          simp only [st1] at h1
          obtain ⟨_, _, h1⟩ := bnd_eq_some.1 h1
          cases h1
        | need g e =>
          simp only [st1] at h1
          obtain ⟨b, _, h1⟩ := bnd_eq_some.1 h1
          split at h1
          · obtain ⟨_, _, h1⟩ := bnd_eq_some.1 h1
            cases h1
          · cases h1
        | tick m => cases h1
    | go T1 H1 n1 =>
      refine Kp.trans ?_ (hmono (ih h2))
      cases x with
      | set d e =>
        simp only [st1] at h1
        obtain ⟨_, _, h1⟩ := bnd_eq_some.1 h1
        injection h1 with h1
        injection h1 with e1 e2 e3
        subst e1
        refine upd_fr.mono (fun i hi => ?_)
        simp only [wrS, List.contains_cons, Bool.or_eq_false_iff] at hi
        simpa using hi.1
      | need g e =>
        simp only [st1] at h1
        obtain ⟨b, _, h1⟩ := bnd_eq_some.1 h1
        split at h1
        · obtain ⟨_, _, h1⟩ := bnd_eq_some.1 h1
          injection h1 with h1
          injection h1 with e1 e2 e3
          subst e1
          exact Kp.refl _ _
        · injection h1 with h1
          injection h1 with e1 e2 e3
          subst e1
          exact Kp.refl _ _
      | tick m =>
        simp only [st1] at h1
        injection h1 with h1
        injection h1 with e1 e2 e3
        subst e1
        exact Kp.refl _ _
      | act d g o l =>
        have put : ∀ v, Kp (wrS (.act d g o l :: r)) T (putT T d v) := by
          intro v
          cases d with
          | none => exact Kp.refl _ _
          | some d =>
            refine upd_fr.mono (fun i hi => ?_)
            simp only [wrS, List.contains_cons, Bool.or_eq_false_iff] at hi
            simpa using hi.1
        simp only [st1] at h1
        obtain ⟨b, h3, h1⟩ := bnd_eq_some.1 h1
        split at h1
        · obtain ⟨q, h4, h1⟩ := bnd_eq_some.1 h1
          obtain ⟨w, h5, h1⟩ := bnd_eq_some.1 h1
          injection h1 with h1
          unfold afterCall at h1
          split at h1
          · injection h1 with e1 e2 e3
            subst e1
            exact put _
          · cases h1
        · injection h1 with h1
          injection h1 with e1 e2 e3
          subst e1
          exact put _
theorem Kp.left {W W' : List Nat} {T T1 : Nat → PV} (h : Kp W T T1) : Kp (W ++ W') T T1 := h.mono (fun i hi => by
  simp only [List.contains_eq_mem, List.mem_append, decide_eq_false_iff_not, not_or] at hi ⊢
  exact hi.1)
theorem Kp.right {W W' : List Nat} {T T1 : Nat → PV} (h : Kp W' T T1) : Kp (W ++ W') T T1 := h.mono (fun i hi => by
  simp only [List.contains_eq_mem, List.mem_append, decide_eq_false_iff_not, not_or] at hi ⊢
  exact hi.2)
theorem Y_fr {c : SC} : ∀ {s e s'}, noOrig c = true → Y E c s = some (e, s') → Kp (wr c) s.T s'.T := by
  induction c with
  | skip => intro s e s' _ h; simp only [Y] at h; injection h with h; injection h with h1 h2; subst h2; exact Kp.refl _ _
  | exit i => intro s e s' _ h; simp only [Y] at h; injection h with h; injection h with h1 h2; subst h2; exact Kp.refl _ _
  | ret => intro s e s' _ h; simp only [Y] at h; injection h with h; injection h with h1 h2; subst h2; exact Kp.refl _ _
  | orig ops => intro s e s' hn; cases hn
  | reg l dr => intro s e s' _ h; simp only [Y] at h; exact sts_fr h
  | regD l chk pre =>
    intro s e s' _ h
    simp only [Y] at h
    obtain ⟨⟨e1, s1⟩, h1, h2⟩ := bnd_eq_some.1 h
    cases e1 with
    | normal =>
      simp only at h2
      split at h2
      · injection h2 with h2
        injection h2 with h3 h4
        subst h4
        exact sts_fr h1
      · cases h2
    | _ => cases h2
  | seq a b iha ihb =>
    intro s e s' hn h
    simp only [noOrig, Bool.and_eq_true] at hn
    simp only [Y] at h
    obtain ⟨⟨e1, s1⟩, h1, h2⟩ := bnd_eq_some.1 h
    have f1 := iha hn.1 h1
    cases e1 with
    | normal => exact Kp.trans (Kp.left f1) (Kp.right (ihb hn.2 h2))
    | _ =>
      simp only at h2
      injection h2 with h2
      injection h2 with h3 h4
      subst h4
      exact Kp.left f1
  | cond x a b iha ihb =>
    intro s e s' hn h
    simp only [noOrig, Bool.and_eq_true] at hn
    simp only [Y] at h
    obtain ⟨v, h1, h2⟩ := bnd_eq_some.1 h
    split at h2
    · split at h2
      · exact Kp.left (iha hn.1 h2)
      · exact Kp.right (ihb hn.2 h2)
    · cases h2
  | block id c ih =>
    intro s e s' hn h
    simp only [Y] at h
    obtain ⟨⟨e1, s1⟩, h1, h2⟩ := bnd_eq_some.1 h
    have f1 := ih hn h1
    cases e1 with
    | _ =>
      simp only at h2
      injection h2 with h2
      injection h2 with h3 h4
      subst h4
      exact f1
  | loop c ih =>
    intro s e s' hn h
    simp only [Y] at h
    obtain ⟨K, hK⟩ := lim_eq.1 h
    have hK := hK K (Nat.le_refl _)
    have key : ∀ (k : Nat) (s : St), loopN (Y E c) k s = some (e, s') → Kp (wr c) s.T s'.T := by
      intro k
      induction k with
      | zero => intro s h; simp [loopN] at h
      | succ k ihk =>
        intro s h
        simp only [loopN] at h
        obtain ⟨⟨e1, s1⟩, h1, h2⟩ := bnd_eq_some.1 h
        have f1 := ih hn h1
        cases e1 with
        | normal => exact Kp.trans f1 (ihk s1 h2)
        | _ =>
          simp only at h2
          injection h2 with h2
          injection h2 with h3 h4
          subst h4
          exact f1
    exact key K s hK
theorem Y_loop_next {c : SC} {s s1 : St} {r : Ex × St} (h : Y E c s = some (.normal, s1)) (h' : Y E (.loop c) s1 = some r) : Y E (.loop c) s = some r := by
  simp only [Y] at h' ⊢
  obtain ⟨N, hN⟩ := lim_eq.1 h'
  refine lim_eq.2 ⟨N + 1, fun n hn => ?_⟩
  obtain ⟨n, rfl⟩ : ∃ i, n = i + 1 := ⟨n - 1, by omega⟩
  simp only [loopN, h, bnd_some]
  exact hN n (by omega)
theorem Y_loop_end {c : SC} {s : St} {r : Ex × St} (h : Y E c s = some r) (hn : r.1 ≠ .normal) : Y E (.loop c) s = some r := by
  simp only [Y]
  refine lim_eq.2 ⟨1, fun n hn' => ?_⟩
  obtain ⟨n, rfl⟩ : ∃ i, n = i + 1 := ⟨n - 1, by omega⟩
  obtain ⟨e, s1⟩ := r
  cases e with
  | normal => exact absurd rfl hn
  | _ => simp only [loopN, h, bnd_some]
/-- What stands behind a round. -/
def nextQ (I : Nat → (Nat → PV) → Ob → Nat → Prop) (k : Nat) (Q : Qt) : Qt := fun e T H n => match e with
  | .normal => ∃ k', k' < k ∧ I k' T H n
  | e => Q e T H n
theorem nextQ_normal {I k} : nextQ I k Q .normal T H n = ∃ k', k' < k ∧ I k' T H n := rfl
theorem nextQ_ret {I k} : nextQ I k Q .ret T H n = Q .ret T H n := rfl
theorem nextQ_exit {I k i} : nextQ I k Q (.exit i) T H n = Q (.exit i) T H n := rfl
@[congr] theorem nextQ_congr {I k e} : nextQ I k Q e T H n = nextQ I k Q e T H n := rfl
/-- A loop: what holds at its head, with at most k rounds to go; the places that it does not turn are as they were. -/
theorem WP_loop {c : SC} (hno : noOrig c = true) (I : Nat → (Nat → PV) → Ob → Nat → Prop) {k0 : Nat} (h0 : I k0 T H n) (h : ∀ k T' H' n', Kp (wr c) T T' → I k T' H' n' → WP E c T' H' n' (nextQ I k Q)) : WP E (.loop c) T H n Q := by
  have key : ∀ (k : Nat) (T' : Nat → PV) (H' : Ob) (n' : Nat), Kp (wr c) T T' → I k T' H' n' → WP E (.loop c) T' H' n' Q := by
    intro k
    induction k using Nat.strongRecOn with
    | _ k ih =>
      intro T' H' n' hf hI
      obtain ⟨e, T1, H1, n1, h1, ho, h2⟩ := h k T' H' n' hf hI
      cases e with
      | normal =>
        obtain ⟨k', hk, hI'⟩ := h2
        obtain ⟨e, T2, H2, n2, h3, ho', h4⟩ := ih k' hk T1 H1 n1 (Kp.trans hf (Y_fr hno h1)) hI'
        exact ⟨e, T2, H2, n2, Y_loop_next h1 h3, ho', h4⟩
      | _ => exact ⟨_, T1, H1, n1, Y_loop_end h1 (by simp), ho, h2⟩
  exact key k0 T H n (Kp.refl _ _) h0

/-! ### functions -/
/-- A function's end, its result by content. -/
def Fin (rs : List MR) (v : PV) : Qt := fun e T H n => (e = .ret ∨ e = .normal) ∧ ∃ vs, resM T H rs = some vs ∧ own 0 H (packR vs) = some v
theorem Fin_ret {rs v} : Fin rs v .ret T H n = WX (resM T H rs) fun vs => own 0 H (packR vs) = some v := by simp [Fin, WX]
theorem Fin_normal {rs v} : Fin rs v .normal T H n = WX (resM T H rs) fun vs => own 0 H (packR vs) = some v := by simp [Fin, WX]
def FinR (rs : List MR) (R : PV → Ob → Nat → Prop) : Qt := fun e T H n => (e = .ret ∨ e = .normal) ∧ ∃ vs, resM T H rs = some vs ∧ R (packR vs) H n
theorem FinR_ret {rs R} : FinR rs R .ret T H n = WX (resM T H rs) fun vs => R (packR vs) H n := by simp [FinR, WX]
theorem FinR_normal {rs R} : FinR rs R .normal T H n = WX (resM T H rs) fun vs => R (packR vs) H n := by simp [FinR, WX]
theorem fn_ok {f : FuncId} {D : List Nat} {nt : Nat} {rs : List MR} {c : SC} {args : List PV} {v : PV} (hf : sF E f D = some ⟨nt, rs, c⟩) (hl : args.length ≤ nt) (h : WP E c (enter args) (Ob.of []) 0 (Fin rs v)) (hlf : E.loc f = false := by rfl) : calL E f args [] = some (.ret v, []) := by
  obtain ⟨e, T1, H1, n1, h1, _, h2, vs, h3, h4⟩ := h
  refine calS_of (r := (.ret (packR vs), H1, n1)) hf hl h1 ?_ (finE_no hlf ?_)
  · unfold finM
    rcases h2 with e1 | e1 <;> (subst e1; simp only [h3, bnd_some])
  · simp only [ownOut, h4, bnd_some]
/-- A local function's end. -/
def FinL (lc : Bool) (k : Nat) (rs : List MR) (R : Out × List HObj → Prop) : Qt := fun e T H n => (e = .ret ∨ e = .normal) ∧ ∃ vs, resM T H rs = some vs ∧ ∃ r, finE lc k (.ret (packR vs), H, n) = some r ∧ R r
theorem FinL_ret {lc k rs R} : FinL lc k rs R .ret T H n = WX (resM T H rs) fun vs => WX (finE lc k (.ret (packR vs), H, n)) R := by simp [FinL, WX]
theorem FinL_normal {lc k rs R} : FinL lc k rs R .normal T H n = WX (resM T H rs) fun vs => WX (finE lc k (.ret (packR vs), H, n)) R := by simp [FinL, WX]
theorem fn_loc {f : FuncId} {D : List Nat} {nt : Nat} {rs : List MR} {c : SC} {args : List PV} {hs : List HObj} {R : Out × List HObj → Prop} (hf : sF E f D = some ⟨nt, rs, c⟩) (hl : args.length ≤ nt) (h : WP E c (enter args) (Ob.of hs) hs.length (FinL (E.loc f) hs.length rs R)) : ∃ r, calL E f args hs = some r ∧ R r := by
  obtain ⟨e, T1, H1, n1, h1, _, h2, vs, h3, r, h4, h5⟩ := h
  refine ⟨r, calS_of (r := (.ret (packR vs), H1, n1)) hf hl h1 ?_ h4, h5⟩
  unfold finM
  rcases h2 with e1 | e1 <;> (subst e1; simp only [h3, bnd_some])
theorem fn_run {f : FuncId} {D : List Nat} {nt : Nat} {rs : List MR} {c : SC} {args : List PV} {R : PV → Ob → Nat → Prop} (hf : sF E f D = some ⟨nt, rs, c⟩) (hl : args.length ≤ nt) (h : WP E c (enter args) H n (FinR rs R)) : ∃ v H1 n1, runL E f args H n = some (.ret v, H1, n1) ∧ R v H1 n1 := by
  obtain ⟨e, T1, H1, n1, h1, _, h2, vs, h3, h4⟩ := h
  refine ⟨packR vs, H1, n1, runS_of hf hl h1 ?_, h4⟩
  unfold finM
  rcases h2 with e1 | e1 <;> (subst e1; simp only [h3, bnd_some])

/-! ### calls -/
def vals (T : Nat → PV) (l : List MX) : List PV := l.map (valX T)
theorem vals_nil : vals T [] = [] := rfl
theorem vals_cons {x r} : vals T (x :: r) = valX T x :: vals T r := rfl
theorem WA_call {f args K} : WA E dr (.call f args) T H n K = WC E dr f (vals T args) H (n + 1) K := rfl
theorem WA_callv {f args K} : WA E dr (.callv f args) T H n K = WV E dr (valX T f) (vals T args) H (n + 1) K := by
  unfold WA WV WC vals
  simp only [actV]
  apply propext
  constructor
  · rintro ⟨v, H1, n1, h, hk⟩
    obtain ⟨c, h1, h2⟩ := bnd_eq_some.1 h
    exact ⟨c, h1, v, H1, n1, h2, hk⟩
  · rintro ⟨c, h1, v, H1, n1, h2, hk⟩
    exact ⟨v, H1, n1, by rw [h1]; exact h2, hk⟩
theorem WA_op {o K} (ho : (match o with | .call _ _ => false | .callv _ _ => false | .panic _ => false | _ => true) = true) : WA E dr o T H n K = WX (mstep o dr T H n) fun r => K r.1 r.2 (n + 1) := by
  have e : actV E dr o T H n = bnd (mstep o dr T H n) fun r => some (.ret r.1, r.2, n + 1) := by
    cases o <;> first | rfl | cases ho
  unfold WA WX
  rw [e]
  apply propext
  constructor
  · rintro ⟨v, H1, n1, h, hk⟩
    obtain ⟨c, h1, h2⟩ := bnd_eq_some.1 h
    injection h2 with h2
    injection h2 with e1 e2
    injection e2 with e2 e3
    injection e1 with e1
    subst e1; subst e2; subst e3
    exact ⟨c, h1, hk⟩
  · rintro ⟨c, h1, hk⟩
    exact ⟨c.1, c.2, n + 1, by rw [h1]; rfl, hk⟩
section
variable {q : Nat → PV} {d : Option Nat} {r : List St1}
/-- A call, and the statements behind it. -/
def WCs (E : Env) (dr : Bool) (f : FuncId) (args : List PV) (H : Ob) (n : Nat) (d : Option Nat) (T : Nat → PV) (r : List St1) (Q : Qt) : Prop := WC E dr f args H n fun v H1 n1 => WS E dr r (putT T d v) H1 n1 Q
def WVs (E : Env) (dr : Bool) (f : PV) (args : List PV) (H : Ob) (n : Nat) (d : Option Nat) (T : Nat → PV) (r : List St1) (Q : Qt) : Prop := WV E dr f args H n fun v H1 n1 => WS E dr r (putT T d v) H1 n1 Q
/-- An append, and the statements behind it. -/
def WApp (E : Env) (dr : Bool) (e : TypeId) (sz : Nat) (s x : PV) (H : Ob) (n : Nat) (d : Option Nat) (T : Nat → PV) (r : List St1) (Q : Qt) : Prop := WX (appendM e sz H n s x) fun p => WS E dr r (putT T d p.1) p.2 (n + 1) Q
theorem WB_call {f args} : WB E dr (.call f args) q H n d T r Q = WCs E dr f (vals q args) H (n + 1) d T r Q := rfl
theorem WB_callv {f args} : WB E dr (.callv f args) q H n d T r Q = WVs E dr (valX q f) (vals q args) H (n + 1) d T r Q := WA_callv
theorem WB_box {t x} : WB E dr (.box t x) q H n d T r Q = WX (boxO H n t (valX q x)) fun p => WS E dr r (putT T d p.1) p.2 (n + 1) Q := WA_op rfl
theorem WB_alloc {t z} : WB E dr (.alloc t z) q H n d T r Q = WS E dr r (putT T d (.ptr n 0)) (H.set n (.box t (z.map .s))) (n + 1) Q := by
  unfold WB
  rw [WA_op rfl]
  exact WX_some
theorem WX_unit {o : Option Ob} {K : PV × Ob → Prop} : WX (unitR o) K = WX o fun H => K (.undef, H) := by
  unfold unitR
  rw [WX_bnd]
  simp only [WX_some]
theorem WB_store {sz a x} : WB E dr (.store sz a x) q H n d T r Q = WX (storeM sz H (valX q a) (valX q x)) fun H1 => WS E dr r (putT T d .undef) H1 (n + 1) Q := by
  unfold WB
  rw [WA_op rfl]
  exact WX_unit
theorem WB_conv {k x} : WB E dr (.conv k x) q H n d T r Q = WX (convM k H n (valX q x)) fun p => WS E dr r (putT T d p.1) p.2 (n + 1) Q := WA_op rfl
theorem WB_app {e sz s x} : WB E dr (.app e sz s x) q H n d T r Q = WApp E dr e sz (valX q s) (valX q x) H n d T r Q := WA_op rfl
theorem WB_mkm : WB E dr .mkm q H n d T r Q = WS E dr r (putT T d (.map n)) (H.set n (.map [])) (n + 1) Q := by
  unfold WB
  rw [WA_op rfl]
  exact WX_some
theorem WB_mupd {kt m k x} : WB E dr (.mupd kt m k x) q H n d T r Q = WX (mupdM kt H (valX q m) (valX q k) (valX q x)) fun H1 => WS E dr r (putT T d .undef) H1 (n + 1) Q := by
  unfold WB
  rw [WA_op rfl]
  exact WX_unit
theorem WB_mks {e sz z l c} : WB E dr (.mks e sz z l c) q H n d T r Q = WX (mksM e sz z H n (valX q l) (valX q c)) fun p => WS E dr r (putT T d p.1) p.2 (n + 1) Q := WA_op rfl
theorem WB_rows {sz z m ps} : WB E dr (.rows sz z m ps) q H n d T r Q = WX (mstep (.rows sz z m ps) dr q H n) fun p => WS E dr r (putT T d p.1) p.2 (n + 1) Q := WA_op rfl
end
/-! numbers, texts, truth values -/
theorem bi_add {k a b} : binM .add .num (.s (.int k a)) (.s (.int k b)) = some (.s (.int k (k.wrap (a + b)))) := by simp [binM, binInt]
theorem bi_sub {k a b} : binM .sub .num (.s (.int k a)) (.s (.int k b)) = some (.s (.int k (k.wrap (a - b)))) := by simp [binM, binInt]
theorem bi_mul {k a b} : binM .mul .num (.s (.int k a)) (.s (.int k b)) = some (.s (.int k (k.wrap (a * b)))) := by simp [binM, binInt]
theorem bi_quo {k a b} : binM .quo .num (.s (.int k a)) (.s (.int k b)) = gd (b ≠ 0) (.s (.int k (k.wrap (a.tdiv b)))) := by
  by_cases h : b = 0 <;> simp [binM, binInt, gd, h]
theorem bi_rem {k a b} : binM .rem .num (.s (.int k a)) (.s (.int k b)) = gd (b ≠ 0) (.s (.int k (a.tmod b))) := by
  by_cases h : b = 0 <;> simp [binM, binInt, gd, h]
theorem bi_eql {k a b} : binM .eql .num (.s (.int k a)) (.s (.int k b)) = some (.s (.bool (decide (a = b)))) := by simp [binM, binInt]
theorem bi_neq {k a b} : binM .neq .num (.s (.int k a)) (.s (.int k b)) = some (.s (.bool (!decide (a = b)))) := by simp [binM, binInt]
theorem bi_lss {k a b} : binM .lss .num (.s (.int k a)) (.s (.int k b)) = some (.s (.bool (decide (a < b)))) := by simp [binM, binInt]
theorem bi_leq {k a b} : binM .leq .num (.s (.int k a)) (.s (.int k b)) = some (.s (.bool (decide (a ≤ b)))) := by simp [binM, binInt]
theorem bi_gtr {k a b} : binM .gtr .num (.s (.int k a)) (.s (.int k b)) = some (.s (.bool (decide (b < a)))) := by simp [binM, binInt]
theorem bi_geq {k a b} : binM .geq .num (.s (.int k a)) (.s (.int k b)) = some (.s (.bool (decide (b ≤ a)))) := by simp [binM, binInt]
theorem bs_eql {a b} : binM .eql .num (.s (.str a)) (.s (.str b)) = some (.s (.bool (decide (a = b)))) := by simp [binM, binStr]
theorem bs_neq {a b} : binM .neq .num (.s (.str a)) (.s (.str b)) = some (.s (.bool (!decide (a = b)))) := by simp [binM, binStr]
theorem bs_lss {a b} : binM .lss .num (.s (.str a)) (.s (.str b)) = some (.s (.bool (bytesLt a b))) := by simp [binM, binStr]
theorem bb_eql {a b} : binM .eql .bool (.s (.bool a)) (.s (.bool b)) = some (.s (.bool (a == b))) := by simp [binM, eqM]
theorem bb_neq {a b} : binM .neq .bool (.s (.bool a)) (.s (.bool b)) = some (.s (.bool (!(a == b)))) := by simp [binM, eqM]
theorem un_not {b} : unOpS .not (.s (.bool b)) = some (.s (.bool (!b))) := rfl
theorem un_neg {k a} : unOpS .neg (.s (.int k a)) = some (.s (.int k (k.wrap (0 - a)))) := rfl
theorem box_st {t : TypeId} {l : List SV} : boxO H n t (.st l) = some (.ptr n 0, H.set n (.box t (l.map .s))) := by
  unfold boxO
  rw [if_pos]
  · rfl
  · simp [PV.st, PV.cells, cellOk]
def loadB (agg : Bool) (sz off : Nat) : HObj → Option PV
  | .box _ cells => loadP agg sz cells off
  | _ => none
theorem load_ptr {agg sz id off} : loadM agg sz H (.ptr id off) = loadB agg sz off (H id) := by
  simp only [loadM]
  cases H id <;> rfl
theorem loadB_box {agg sz off t cells} : loadB agg sz off (.box t cells) = loadP agg sz cells off := rfl
theorem loadP_f {sz off c} : loadP false sz c off = c[off]? := rfl
theorem loadP_t {sz off c} : loadP true sz c off = if off + sz ≤ c.length then some (.agg ((c.drop off).take sz)) else none := rfl
theorem loadS_f {sz off} {c : List SV} : loadS false sz c off = bnd c[off]? fun v => some (.s v) := by
  unfold loadS
  cases c[off]? <;> rfl
theorem loadS_t {sz off} {c : List SV} : loadS true sz c off = if off + sz ≤ c.length then some (.st ((c.drop off).take sz)) else none := rfl
theorem fa_ptr {o id off} : fieldAM o H (.ptr id off) = some (.ptr id (off + o)) := rfl
def storeB (sz off : Nat) (x : PV) (H : Ob) (id : Nat) : HObj → Option Ob
  | .box ty cells => if x.cells.length = sz ∧ off + sz ≤ cells.length ∧ x.cells.all cellOk = true then some (H.set id (.box ty (setCells cells off x.cells))) else none
  | _ => none
theorem store_ptr {sz id off x} : storeM sz H (.ptr id off) x = storeB sz off x H id (H id) := by
  simp only [storeM]
  cases H id <;> rfl
theorem storeB_box {sz off x id ty cells} : storeB sz off x H id (.box ty cells) = if x.cells.length = sz ∧ off + sz ≤ cells.length ∧ x.cells.all cellOk = true then some (H.set id (.box ty (setCells cells off x.cells))) else none := rfl
theorem WC_own {f : FuncId} {args a : List PV} {H1 : Ob} {v : PV} {K : PV → Ob → Nat → Prop} (hr : (E.ref f || E.loc f) = false) (hl : lendL H args = some (a, H1)) (hi : idbL a = 0) (hd : dr = true → args.all (fzA H) = true) (hc : calL E f a [] = some (.ret v, [])) (hk : K v H1 n) : WC E dr f args H n K := by
  refine ⟨v, H1, n, ?_, hk⟩
  unfold doCall
  rw [Bool.or_eq_false_iff] at hr
  rw [hr.1, hr.2, hl]
  simp only [Bool.false_eq_true, if_false, bnd_some, hi]
  have h1 : ¬ (dr = true ∧ args.all (fzA H) = false) := fun h => by rw [hd h.1] at h; cases h.2
  rw [if_neg h1]
  have h2 : (0 ≤ n ∧ ((firstO H1 0).all fun o => decide (idbO o ≤ 0)) = true) := ⟨Nat.zero_le _, rfl⟩
  rw [if_pos h2]
  simp only [firstO, hc, bnd_some, if_true]
theorem WC_ref {f : FuncId} {args : List PV} {R K : PV → Ob → Nat → Prop} (hr : E.ref f = true) (hd : dr = false) (hc : ∃ v H1 n1, runL E f args H n = some (.ret v, H1, n1) ∧ R v H1 n1) (hk : ∀ v H1 n1, R v H1 n1 → K v H1 n1) : WC E dr f args H n K := by
  obtain ⟨v, H1, n1, h1, h2⟩ := hc
  refine ⟨v, H1, n1, ?_, hk v H1 n1 h2⟩
  unfold doCall
  rw [hr, hd]
  simp only [if_true, Bool.false_eq_true, if_false]
  exact h1
end
/-! ### freezing ahead of a drawn region -/
def frz1 (H : Ob) : PV → Ob
  | .hsl id _ _ _ => freeze1 H id
  | _ => H
theorem frz_nil {T : Nat → PV} {H : Ob} : frz T [] H = H := rfl
theorem frz_cons {T : Nat → PV} {H : Ob} {t : Nat} {r : List Nat} : frz T (t :: r) H = frz T r (frz1 H (T t)) := by
  simp only [frz]
  congr 1
theorem frz1_s {H : Ob} {v : SV} : frz1 H (.s v) = H := rfl
theorem frz1_ptr {H : Ob} {id off : Nat} : frz1 H (.ptr id off) = H := rfl
theorem frz1_agg {H : Ob} {l : List PV} : frz1 H (.agg l) = H := rfl
theorem frz1_func {H : Ob} {f a b} : frz1 H (.func f a b) = H := rfl
theorem frz1_st {H : Ob} {l : List SV} : frz1 H (.st l) = H := rfl
end Go.Vm
end
section
set_option linter.unusedVariables false
set_option linter.unusedSimpArgs false
namespace Go.Vm

section
variable {E : Env}
def Le {α : Type} (a b : Option α) : Prop := ∀ r, a = some r → b = some r
theorem Le.refl {α : Type} (a : Option α) : Le a a := fun _ h => h
theorem Le.bnd {α β : Type} {a a' : Option α} {f f' : α → Option β} (h : Le a a') (hf : ∀ x, Le (f x) (f' x)) : Le (Vm.bnd a f) (Vm.bnd a' f') := by
  intro r hr
  obtain ⟨x, h1, h2⟩ := bnd_eq_some.1 hr
  rw [h x h1, bnd_some]
  exact hf x r h2
def LeC (c c' : CallC) : Prop := ∀ f a h, Le (c f a h) (c' f a h)
def LeR (r r' : Run) : Prop := ∀ f a H n, Le (r f a H n) (r' f a H n)
theorem LeC.of {r r' : Run} (h : LeR r r') : LeC (callE E r) (callE E r') := fun f a hs => Le.bnd (h _ _ _ _) (fun _ => Le.refl _)
theorem doCall_le {c c' : CallC} {r r' : Run} (hc : LeC c c') (hr : LeR r r') {dr : Bool} {f : FuncId} {args : List PV} {H : Ob} {n : Nat} : Le (doCall E c r dr f args H n) (doCall E c' r' dr f args H n) := by
  unfold doCall
  split
  · split
    · exact Le.refl _
    · exact hr _ _ _ _
  · split
    · refine Le.bnd ?_ (fun _ => Le.refl _)
      unfold doLoc
      simp only
      split
      · exact Le.bnd (Le.refl _) fun _ => Le.bnd (hc _ _ _) fun _ => Le.refl _
      · exact Le.refl _
    refine Le.bnd (Le.refl _) (fun a => ?_)
    simp only
    split
    · exact Le.refl _
    · split
      · exact Le.bnd (hc _ _ _) (fun _ => Le.refl _)
      · exact Le.refl _
theorem stepO_le {c c' : CallC} {r r' : Run} (hc : LeC c c') (hr : LeR r r') {ops : Array Oper} {dr : Bool} {o : Oper} {T : Nat → PV} {H : Ob} {n : Nat} : Le (stepO E c r ops dr o T H n) (stepO E c' r' ops dr o T H n) := by
  by_cases hp : plainO o.op = true
  · rw [stepO_plain hp, stepO_plain hp]
    exact Le.refl _
  · obtain ⟨dst, op, ty, pos, af, g⟩ := o
    unfold stepO
    split
    · cases op with
      | buildSlice t n ps => exact Le.refl _
      | panic y => exact Le.refl _
      | call x =>
        obtain ⟨ce, args, ts⟩ := x
        cases ce with
        | value f => exact Le.bnd (Le.refl _) fun _ => Le.bnd (Le.refl _) fun _ => Le.bnd (Le.refl _) fun _ => Le.bnd (doCall_le hc hr) fun _ => Le.refl _
        | _ => exact absurd rfl hp
      | _ => exact absurd rfl hp
    · exact Le.refl _
theorem opsO_le {c c' : CallC} {r r' : Run} (hc : LeC c c') (hr : LeR r r') {ops : Array Oper} {dr : Bool} : ∀ {os : List Oper} {T : Nat → PV} {H : Ob} {n : Nat}, Le (opsO E c r ops dr os T H n) (opsO E c' r' ops dr os T H n)
  | [], T, H, n => Le.refl _
  | o :: os, T, H, n => by
    simp only [opsO]
    refine Le.bnd (stepO_le hc hr) (fun x => ?_)
    cases x with
    | go T1 H1 n1 => exact opsO_le hc hr
    | panic v T1 H1 n1 => exact Le.refl _
theorem opsD_le {c c' : CallC} {r r' : Run} (hc : LeC c c') (hr : LeR r r') {ops : Array Oper} {M : List Nat} : ∀ {os : List Oper} {i : Nat} {tr : List (Nat × List Nat)} {T : Nat → PV} {H : Ob} {n : Nat}, Le (opsD E c r ops M i tr os T H n) (opsD E c' r' ops M i tr os T H n)
  | [], i, tr, T, H, n => Le.refl _
  | o :: os, i, tr, T, H, n => by
    simp only [opsD]
    split
    · refine Le.bnd (stepO_le hc hr) (fun x => ?_)
      cases x with
      | go T1 H1 n1 => exact opsD_le hc hr
      | panic v T1 H1 n1 => exact Le.refl _
    · exact Le.refl _
theorem loopN_le {b b' : St → Option (Ex × St)} (h : ∀ s, Le (b s) (b' s)) : ∀ {n : Nat} {s : St}, Le (loopN b n s) (loopN b' n s)
  | 0, s => Le.refl _
  | n + 1, s => by
    simp only [loopN]
    refine Le.bnd (h s) (fun x => ?_)
    obtain ⟨e, s1⟩ := x
    cases e with
    | normal => exact loopN_le h
    | _ => exact Le.refl _
theorem exec_le {dyn : Bool} {c c' : CallC} {r r' : Run} (hc : LeC c c') (hr : LeR r r') {n m : Nat} (hn : n ≤ m) : ∀ {code : Code} {s : St}, Le (exec E dyn c r n code s) (exec E dyn c' r' m code s)
  | .skip, s => Le.refl _
  | .label l, s => Le.refl _
  | .exit i, s => Le.refl _
  | .ret, s => Le.refl _
  | .region id ops draw, s => by
    simp only [exec]
    split
    · split
      · unfold runT
        refine Le.bnd (opsD_le hc hr) (fun x => ?_)
        obtain ⟨e, s1⟩ := x
        cases e with
        | normal => exact opsO_le hc hr
        | _ => exact Le.refl _
      · exact opsD_le hc hr
    · exact opsO_le hc hr
  | .seq a b, s => by
    simp only [exec]
    refine Le.bnd (exec_le hc hr hn) (fun x => ?_)
    obtain ⟨e, s1⟩ := x
    cases e with
    | normal => exact exec_le hc hr hn
    | _ => exact Le.refl _
  | .cond x a b, s => by
    simp only [exec]
    refine Le.bnd (Le.refl _) (fun v => ?_)
    split
    · split
      · exact exec_le hc hr hn
      · exact exec_le hc hr hn
    · exact Le.refl _
  | .block id c, s => by
    simp only [exec]
    exact Le.bnd (exec_le hc hr hn) (fun _ => Le.refl _)
  | .loop c, s => by
    simp only [exec]
    intro x hx
    exact loopN_mono (loopN_le (fun s => exec_le hc hr hn) x hx) m hn
  | .rangeFunc .., s => fun _ h => by simp [exec] at h
  | .scope .., s => fun _ h => by simp [exec] at h
  | .goto .., s => fun _ h => by simp [exec] at h
  | .refuse .., s => fun _ h => by simp [exec] at h
theorem runF_le : ∀ (n m : Nat), n ≤ m → LeR (runF E n) (runF E m)
  | 0, m, _ => fun f a H k r h => by simp [runF] at h
  | n + 1, m, hm => by
    obtain ⟨m, rfl⟩ : ∃ i, m = i + 1 := ⟨m - 1, by omega⟩
    have hr := runF_le n m (by omega)
    intro f a H k
    simp only [runF]
    split
    · exact Le.refl _
    · split
      · split
        · split
          · exact Le.bnd (exec_le (LeC.of hr) hr (by omega)) (fun _ => Le.refl _)
          · exact Le.refl _
        · exact Le.refl _
      · exact Le.refl _
/-- A run by the kernel. -/
theorem cal_run {n : Nat} {f : FuncId} {args : List PV} {hs : List HObj} {r : Out × List HObj} (h : callE E (runF E n) f args hs = some r) : calL E f args hs = some r :=
  lim_eq.2 ⟨n, fun m hm => LeC.of (runF_le n m hm) f args hs r h⟩
theorem run_run {n : Nat} {f : FuncId} {args : List PV} {H : Ob} {k : Nat} {r : Out × Ob × Nat} (h : runF E n f args H k = some r) : runL E f args H k = some r :=
  lim_eq.2 ⟨n, fun m hm => runF_le n m hm f args H k r h⟩
end
end Go.Vm
end
section
set_option linter.unusedVariables false
set_option linter.unusedSimpArgs false
namespace Go.Vm

theorem wrap_in {x : Int} (h0 : -9223372036854775808 ≤ x) (h1 : x ≤ 9223372036854775807) : IntKind.i64.wrap x = x := IntWalk.i64_in _ ⟨h0, h1⟩
theorem wrap_succ {j : Nat} (h : j < 4611686018427387904) : IntKind.i64.wrap ((j : Int) + 1) = ((j + 1 : Nat) : Int) := by
  rw [wrap_in (by omega) (by omega)]
  omega
theorem u8_default : (default : UInt8) = 0 := rfl
theorem take_step {α : Type} {l : List α} {j : Nat} (d : α) (h : j < l.length) : l.take (j + 1) = l.take j ++ [l.getD j d] := by
  rw [List.take_add_one, List.getElem?_eq_getElem h, List.getD_eq_getElem?_getD, List.getElem?_eq_getElem h]
  rfl
theorem take_all {α : Type} {l : List α} {j : Nat} (h : ¬ j < l.length) : l.take j = l := List.take_of_length_le (by omega)
theorem getD_mem {α : Type} {l : List α} {j : Nat} (d : α) (h : j < l.length) : l.getD j d ∈ l := by
  rw [List.getD_eq_getElem?_getD, List.getElem?_eq_getElem h]
  exact List.getElem_mem h
theorem all_not {α : Type} {l : List α} {j : Nat} {p : α → Bool} (d : α) (h : j < l.length) (hp : p (l.getD j d) = false) : l.all p = false := by
  rw [List.all_eq_false]
  exact ⟨_, getD_mem d h, by simp only [hp]; exact Bool.false_ne_true⟩
theorem all_next {α : Type} {l : List α} {j : Nat} {p : α → Bool} (d : α) (h : j < l.length) (ha : (l.take j).all p = true) (hp : p (l.getD j d) = true) : (l.take (j + 1)).all p = true := by
  rw [take_step d h, List.all_append, ha]
  simp only [List.all_cons, hp, List.all_nil, Bool.and_self]
theorem all_end {α : Type} {l : List α} {j : Nat} {p : α → Bool} (h : ¬ j < l.length) (ha : (l.take j).all p = true) : l.all p = true := by rw [take_all h] at ha; exact ha

theorem own_s {m : Nat} {H : Ob} {v : SV} : own m H (.s v) = some (.s v) := by simp only [own]
theorem own_agg {m : Nat} {H : Ob} {cs : List PV} : own m H (.agg cs) = bnd (ownL m H cs) fun cs => some (.agg cs) := by simp only [own]
theorem own_tuple {m : Nat} {H : Ob} {cs : List PV} : own m H (.tuple cs) = bnd (ownL m H cs) fun cs => some (.tuple cs) := by simp only [own]
theorem ownL_nil {m : Nat} {H : Ob} : ownL m H [] = some [] := by simp only [ownL]
theorem ownL_cons {m : Nat} {H : Ob} {p r} : ownL m H (p :: r) = bnd (own m H p) fun p => bnd (ownL m H r) fun r => some (p :: r) := by simp only [ownL]
theorem lend_s {H : Ob} {v : SV} : lend H (.s v) = some (.s v, H) := by simp only [lend]
theorem lendL_nil {H : Ob} : lendL H [] = some ([], H) := by simp only [lendL]
theorem lendL_cons {H : Ob} {p r} : lendL H (p :: r) = bnd (lend H p) fun a => bnd (lendL a.2 r) fun b => some (a.1 :: b.1, b.2) := by simp only [lendL]
theorem lendL_map_s {H : Ob} : ∀ {l : List SV}, lendL H (l.map .s) = some (l.map .s, H)
  | [] => lendL_nil
  | v :: r => by rw [List.map_cons, lendL_cons, lend_s, bnd_some, lendL_map_s]; rfl
theorem lend_st {H : Ob} {l : List SV} : lend H (.st l) = some (.st l, H) := by
  unfold PV.st
  simp only [lend, lendL_map_s, bnd_some]
theorem idbL_map_s : ∀ {l : List SV}, idbL (l.map .s) = 0
  | [] => by simp [idbL]
  | v :: r => by simp only [List.map_cons, idbL, idb, idbL_map_s]; rfl
theorem idb_st {l : List SV} : idb (.st l) = 0 := by unfold PV.st; simp only [idb, idbL_map_s]
theorem idb_s {v : SV} : idb (.s v) = 0 := by simp only [idb]
theorem thaws_map_s {H : Ob} : ∀ {l : List SV}, thaws H (l.map .s) = some (l, H)
  | [] => rfl
  | v :: r => by simp only [List.map_cons, thaws, thaw, thaws_map_s]

/-! ### local structs -/
theorem loadP_fs {sz off : Nat} {l : List SV} : loadP false sz (l.map .s) off = bnd l[off]? fun v => some (.s v) := by
  rw [loadP_f, List.getElem?_map]
  cases l[off]? <;> rfl
theorem loadP_ts {sz off : Nat} {l : List SV} : loadP true sz (l.map .s) off = if off + sz ≤ l.length then some (.st ((l.drop off).take sz)) else none := by
  rw [loadP_t, List.length_map, ← List.map_drop, ← List.map_take]
  rfl
theorem setCells_map {m : List SV} : ∀ {l : List SV} {off : Nat}, setCells (l.map PV.s) off (m.map .s) = (setCells l off m).map .s := by
  induction m with
  | nil => intro l off; rfl
  | cons v m ih =>
    intro l off
    simp only [List.map_cons, setCells]
    rw [← ih, List.map_set]
theorem setCells_len {α : Type} {m : List α} : ∀ {l : List α} {off : Nat}, (setCells l off m).length = l.length := by
  induction m with
  | nil => intro l off; rfl
  | cons v m ih => intro l off; simp only [setCells, ih, List.length_set]
theorem setCells_at {α : Type} {m : List α} : ∀ {l : List α} {off i : Nat}, (setCells l off m)[i]? = if off ≤ i ∧ i < off + m.length ∧ i < l.length then m[i - off]? else l[i]? := by
  induction m with
  | nil => intro l off i; simp only [setCells]; rw [if_neg]; simp; omega
  | cons v m ih =>
    intro l off i
    simp only [setCells, ih, List.length_set, List.length_cons]
    by_cases h1 : off + 1 ≤ i ∧ i < off + 1 + m.length ∧ i < l.length
    · rw [if_pos h1, if_pos (by omega)]
      have : i - off = (i - (off + 1)) + 1 := by omega
      rw [this]
      rfl
    · rw [if_neg h1, List.getElem?_set]
      by_cases h2 : off = i
      · subst h2
        rw [if_pos rfl]
        by_cases h3 : off < l.length
        · rw [if_pos h3, if_pos (by omega)]
          simp
        · rw [if_neg h3, if_neg (by omega)]
          rw [List.getElem?_eq_none (by omega)]
      · rw [if_neg h2, if_neg (by omega)]
theorem setCells_all {α : Type} {l m : List α} (h : l.length = m.length) : setCells l 0 m = m := by
  apply List.ext_getElem?
  intro i
  rw [setCells_at]
  by_cases hi : i < m.length
  · rw [if_pos (by omega)]; rfl
  · rw [if_neg (by omega), List.getElem?_eq_none (by omega), List.getElem?_eq_none (by omega)]
theorem all_cellOk {m : List SV} : (m.map PV.s).all cellOk = true := by simp [cellOk]
theorem storeB_st {sz off : Nat} {H : Ob} {id : Nat} {ty : TypeId} {l m : List SV} : storeB sz off (.st m) H id (.box ty (l.map .s)) = if m.length = sz ∧ off + sz ≤ l.length then some (H.set id (.box ty ((setCells l off m).map .s))) else none := by
  have e : (PV.st m).cells = m.map .s := rfl
  rw [storeB_box, e, setCells_map, List.length_map, List.length_map]
  by_cases h : m.length = sz ∧ off + sz ≤ l.length
  · rw [if_pos h, if_pos ⟨h.1, h.2, all_cellOk⟩]
  · rw [if_neg h, if_neg (fun h' => h ⟨h'.1, h'.2.1⟩)]
theorem storeB_s {sz off : Nat} {H : Ob} {id : Nat} {ty : TypeId} {l : List SV} {v : SV} : storeB sz off (.s v) H id (.box ty (l.map .s)) = if 1 = sz ∧ off + sz ≤ l.length then some (H.set id (.box ty ((l.set off v).map .s))) else none := by
  have e : (PV.s v).cells = [v].map .s := rfl
  rw [storeB_box, e, setCells_map, List.length_map, List.length_map]
  by_cases h : 1 = sz ∧ off + sz ≤ l.length
  · rw [if_pos h, if_pos ⟨h.1, h.2, all_cellOk⟩]; rfl
  · rw [if_neg h, if_neg (fun h' => h ⟨h'.1, h'.2.1⟩)]

theorem set_set {H : Ob} {id : Nat} {a b : HObj} : (H.set id a).set id b = H.set id b := by
  funext j
  simp only [set_at]
  by_cases h : j = id <;> simp [h]

/-! ### slices that grow -/
/-- A slice that this run alone holds: nil, a literal, or a whole object of its own. -/
def Own (lo : Nat) (e : TypeId) (sz : Nat) (H : Ob) (n : Nat) (p : PV) (rows : List (List SV)) : Prop :=
  (p = .s .nils ∧ rows = []) ∨ (p = .s (.slice rows true) ∧ ∀ c ∈ rows, c.length = sz) ∨ ∃ id ver fz, lo ≤ id ∧ id < n ∧ p = .hsl id ver 0 rows.length ∧ H id = .sarr e sz ver fz true rows
/-- An object that p does not lie in. -/
def Off (p : PV) (j : Nat) : Prop := ∀ id ver off m, p = .hsl id ver off m → j ≠ id
theorem Own.nil {lo e sz H n} : Own lo e sz H n (.s .nils) [] := .inl ⟨rfl, rfl⟩
theorem Own.lit {lo e sz H n} : Own lo e sz H n (.s (.slice [] true)) [] := .inr (.inl ⟨rfl, fun c hc => by cases hc⟩)
theorem Own.rows {lo e sz H n p rows} (h : Own lo e sz H n p rows) : rowsOf H p = some rows := by
  rcases h with ⟨rfl, rfl⟩ | ⟨rfl, _⟩ | ⟨id, ver, fz, _, _, rfl, h⟩
  · rfl
  · rfl
  · simp only [rowsOf, h]
    rw [if_pos ⟨trivial, by omega⟩]
    simp
theorem Own.len {lo e sz H n p rows k} (h : Own lo e sz H n p rows) : lenM (.sl k) H p = some (.i64 rows.length) := by
  rcases h with ⟨rfl, rfl⟩ | ⟨rfl, _⟩ | ⟨id, ver, fz, _, _, rfl, h⟩
  · rfl
  · rfl
  · simp only [lenM, h, if_true]
theorem Own.keep {lo e sz H H' n n' p rows} (h : Own lo e sz H n p rows) (hn : n ≤ n') (hH : ∀ j, lo ≤ j → j < n → ¬ Off p j → H' j = H j) : Own lo e sz H' n' p rows := by
  rcases h with ⟨rfl, rfl⟩ | h | ⟨id, ver, fz, h1, h2, rfl, h⟩
  · exact .nil
  · exact .inr (.inl h)
  · refine .inr (.inr ⟨id, ver, fz, h1, by omega, rfl, ?_⟩)
    rw [hH id h1 h2 (fun ho => ho _ _ _ _ rfl rfl), h]
/-- Objects below n are as they were. -/
theorem Own.kept {lo e sz H H' n n' p rows} (h : Own lo e sz H n p rows) (hn : n ≤ n') (hH : ∀ j, lo ≤ j → j < n → H' j = H j) : Own lo e sz H' n' p rows := h.keep hn (fun j h1 h2 _ => hH j h1 h2)
theorem Own.off {lo e sz H n p rows j} (h : Own lo e sz H n p rows) (hj : j < lo ∨ n ≤ j) : Off p j := by
  intro id ver off m e1
  rcases h with ⟨rfl, rfl⟩ | ⟨rfl, _⟩ | ⟨id', ver', fz, h1, h2, rfl, h⟩
  · cases e1
  · cases e1
  · injection e1 with e1
    omega
theorem Own.app {lo e sz H n nid p rows x new} (h : Own lo e sz H n p rows) (hx : rowsOf H x = some new) (hc : ∀ c ∈ new, c.length = sz) (hl : rows.length + new.length ≤ 1073741824) (hn : n ≤ nid) (hlo : lo ≤ nid) :
    ∃ p' H', appendM e sz H nid p x = some (p', H') ∧ Own lo e sz H' (nid + 1) p' (rows ++ new) ∧ (∀ j, j ≠ nid → Off p j → H' j = H j) ∧ (∀ j, j ≠ nid → Off p j → Off p' j) := by
  have hall : new.all (fun c => decide (c.length = sz)) = true := List.all_eq_true.2 (fun c hc' => decide_eq_true (hc c hc'))
  by_cases he : new = []
  · subst he
    refine ⟨p, H, ?_, ?_, fun _ _ _ => rfl, fun _ _ h => h⟩
    · unfold appendM
      rw [hx]
      rcases h with ⟨rfl, rfl⟩ | ⟨rfl, h⟩ | ⟨id, ver, fz, h1, h2, rfl, h⟩
      · rfl
      · have h2 : rows.all (fun c => decide (c.length = sz)) = true := List.all_eq_true.2 (fun c hc' => decide_eq_true (h c hc'))
        simp only
        rw [if_pos hall, if_pos ⟨h2, by simpa using hl⟩]
        rfl
      · simp only [h]
        rw [if_pos hall, if_pos ⟨trivial, trivial, trivial, trivial, trivial, by simpa using hl⟩]
        rfl
    · rw [List.append_nil]
      exact h.keep (by omega) (fun _ _ _ _ => rfl)
  · have hne : new.isEmpty = false := by cases new <;> first | rfl | exact absurd rfl he
    rcases h with ⟨rfl, rfl⟩ | ⟨rfl, h⟩ | ⟨id, ver, fz, h1, h2, rfl, h⟩
    · refine ⟨.hsl nid 0 0 new.length, H.set nid (.sarr e sz 0 false true new), ?_, .inr (.inr ⟨nid, 0, false, hlo, by omega, rfl, if_pos rfl⟩), fun j hj _ => if_neg hj, fun j hj _ id ver off m e1 => ?_⟩
      · simp only [appendM, hx, hall, hne, if_true, Bool.false_eq_true, if_false]
        rw [if_pos (by simpa using hl)]
      · injection e1 with e1
        omega
    · have h2 : rows.all (fun c => decide (c.length = sz)) = true := List.all_eq_true.2 (fun c hc' => decide_eq_true (h c hc'))
      refine ⟨.hsl nid 0 0 (rows.length + new.length), H.set nid (.sarr e sz 0 false true (rows ++ new)), ?_, .inr (.inr ⟨nid, 0, false, hlo, by omega, by rw [List.length_append], if_pos rfl⟩), fun j hj _ => if_neg hj, fun j hj _ id ver off m e1 => ?_⟩
      · simp only [appendM, hx, hall, hne, if_true, Bool.false_eq_true, if_false]
        rw [if_pos ⟨h2, hl⟩]
      · injection e1 with e1
        omega
    · refine ⟨.hsl id (ver + 1) 0 (rows.length + new.length), H.set id (.sarr e sz (ver + 1) fz true (rows ++ new)), ?_, .inr (.inr ⟨id, ver + 1, fz, h1, by omega, by rw [List.length_append], if_pos rfl⟩), fun j _ hj => if_neg (hj _ _ _ _ rfl), fun j _ hj id' ver' off m e1 => ?_⟩
      · simp only [appendM, hx, h, hall, hne, if_true, Bool.false_eq_true, if_false]
        rw [if_pos ⟨trivial, trivial, trivial, trivial, trivial, hl⟩]
      · injection e1 with e1
        subst e1
        exact hj _ _ _ _ rfl
/-- Two slices that do not lie in one object. -/
def Dis (p q : PV) : Prop := ∀ j, Off p j ∨ Off q j
theorem Dis.symm {p q : PV} (h : Dis p q) : Dis q p := fun j => (h j).symm
theorem Off.s {v : SV} {j : Nat} : Off (.s v) j := fun _ _ _ _ e => by cases e
theorem Dis.s {v : SV} {q : PV} : Dis (.s v) q := fun j => .inl .s
theorem Own.other {lo e sz H H' n n' nid p q rows} (h : Own lo e sz H n q rows) (hd : Dis p q) (hn : n ≤ nid) (hn' : n ≤ n') (hfr : ∀ j, j ≠ nid → Off p j → H' j = H j) : Own lo e sz H' n' q rows :=
  h.keep hn' (fun j _ hj ho => hfr j (by omega) ((hd j).resolve_right ho))
theorem Dis.next {lo e sz H n nid p p' q rows} (hd : Dis p q) (h : Own lo e sz H n q rows) (hn : n ≤ nid) (hof : ∀ j, j ≠ nid → Off p j → Off p' j) : Dis p' q := by
  intro j
  by_cases hj : j = nid
  · exact .inr (h.off (.inr (by omega)))
  · rcases hd j with h1 | h1
    · exact .inl (hof j hj h1)
    · exact .inr h1
theorem Slc.of_map {α : Type} {f : α → List SV} {l : List α} {b : Bool} : SV.slice (l.map f) b = (Slc.mk l b).sv f := rfl
/-- Handed on to a call by content. -/
theorem Own.lend {α : Type} {f : α → List SV} {l : List α} {lo e sz H n p} (h : Own lo e sz H n p (l.map f)) : ∃ (s : Slc α) (H' : Ob), Vm.lend H p = some (.s (s.sv f), H') ∧ s.l = l ∧ Own lo e sz H' n p (l.map f) ∧ (∀ j, Off p j → H' j = H j) := by
  have hr := h.rows
  rcases h with ⟨rfl, h⟩ | ⟨rfl, h⟩ | ⟨id, ver, fz, h1, h2, rfl, h⟩
  · have : l = [] := by simpa using h
    subst this
    exact ⟨.nil, H, lend_s, rfl, .nil, fun _ _ => rfl⟩
  · exact ⟨.mk l true, H, lend_s, rfl, .inr (.inl ⟨rfl, h⟩), fun _ _ => rfl⟩
  · have hf : freeze1 H id = H.set id (.sarr e sz ver true true (l.map f)) := by simp only [freeze1, h]
    refine ⟨.mk l false, freeze1 H id, ?_, rfl, .inr (.inr ⟨id, ver, true, h1, h2, rfl, ?_⟩), fun j hj => ?_⟩
    · simp only [Vm.lend, hr, bnd_some]; rfl
    · rw [hf]; exact if_pos rfl
    · rw [hf]; exact if_neg (hj _ _ _ _ rfl)
/-- Handed back as a result by content. -/
theorem Own.back {α : Type} {f : α → List SV} {l : List α} {lo e sz H n p} (h : Own lo e sz H n p (l.map f)) : ∃ s : Slc α, own 0 H p = some (.s (s.sv f)) ∧ s.l = l := by
  have hr := h.rows
  rcases h with ⟨rfl, h⟩ | ⟨rfl, h⟩ | ⟨id, ver, fz, h1, h2, rfl, h⟩
  · have : l = [] := by simpa using h
    subst this
    exact ⟨.nil, own_s, rfl⟩
  · exact ⟨.mk l true, own_s, rfl⟩
  · refine ⟨.mk l false, ?_, rfl⟩
    simp only [own, hr, bnd_some]
    rw [if_neg (Nat.not_lt_zero _)]
    rfl
/-- Rules: one new element. -/
def row1 (sz : Nat) (dr : Bool) (H : Ob) (p : PV) : Option (List SV × Ob) := if dr = true ∧ idb p ≠ 0 then none else bnd (thaws H p.cells) fun r => if r.1.length = sz then some r else none
theorem rows1 {E : Env} {dr : Bool} {T U : Nat → PV} {H : Ob} {n sz z x d l Q} : WB E dr (.rows sz z 1 [(0, x)]) T H n d U l Q = WX (row1 sz dr H (valX T x)) fun r => WS E dr l (putT U d (.s (.slice [r.1] true))) r.2 (n + 1) Q := by
  rw [WB_rows]
  have e : mstep (.rows sz z 1 [(0, x)]) dr T H n = bnd (row1 sz dr H (valX T x)) fun r => some (.s (.slice [r.1] true), r.2) := by
    simp only [mstep, row1, List.all_cons, List.all_nil, Bool.and_true, List.map_cons, List.map_nil]
    by_cases hd : dr = true ∧ idb (valX T x) ≠ 0
    · have : dr = true ∧ (decide (idb (valX T x) = 0)) = false := ⟨hd.1, decide_eq_false hd.2⟩
      rw [if_pos hd, if_pos this]
      rfl
    · have : ¬ (dr = true ∧ (decide (idb (valX T x) = 0)) = false) := fun h => hd ⟨h.1, of_decide_eq_false h.2⟩
      rw [if_neg hd, if_neg this]
      simp only [rowParts]
      cases thaws H (valX T x).cells with
      | none => rfl
      | some r =>
        simp only [bnd_some]
        by_cases hl : r.1.length = sz
        · rw [if_pos ⟨hl, by simp⟩, if_pos hl]
          simp [rowParts, bnd_some]
        · rw [if_neg (fun h => hl h.1), if_neg hl]
          rfl
  rw [e, WX_bnd]
  simp only [WX_some]
theorem row1_s {dr : Bool} {H : Ob} {v : SV} : row1 1 dr H (.s v) = some ([v], H) := by
  unfold row1
  rw [if_neg (fun h => h.2 idb_s)]
  rfl
theorem row1_st {dr : Bool} {H : Ob} {l : List SV} {sz : Nat} (h : l.length = sz) : row1 sz dr H (.st l) = some (l, H) := by
  unfold row1
  rw [if_neg (fun h => h.2 idb_st)]
  simp only [PV.st, PV.cells, thaws_map_s, bnd_some, h, if_true]
theorem rows0 {E : Env} {dr : Bool} {T U : Nat → PV} {H : Ob} {n sz z d l Q} : WB E dr (.rows sz z 0 []) T H n d U l Q = WS E dr l (putT U d (.s (.slice [] true))) H (n + 1) Q := by
  rw [WB_rows]
  have e : mstep (.rows sz z 0 []) dr T H n = some (.s (.slice [] true), H) := by
    simp [mstep, rowParts, bnd_some]
  rw [e, WX_some]
/-- Structs of plain cells, compared. -/
theorem toSVs_s : ∀ {l : List SV}, toSVs (l.map PV.s) = some l
  | [] => rfl
  | v :: r => by
    simp only [List.map_cons, toSVs, toSVs_s]
theorem flat_eql {ks : List Nat} {a b : List SV} : binM .eql (.flat ks) (.st a) (.st b) = bnd (svEqs ks a b) fun r => some (.s (.bool r)) := by
  unfold PV.st
  simp only [binM, eqM, toSVs_s]
  cases svEqs ks a b <;> rfl
theorem flat_neq {ks : List Nat} {a b : List SV} : binM .neq (.flat ks) (.st a) (.st b) = bnd (svEqs ks a b) fun r => some (.s (.bool (!r))) := by
  unfold PV.st
  simp only [binM, eqM, toSVs_s]
  cases svEqs ks a b <;> rfl
theorem svEqs_nil : svEqs [] [] [] = some true := rfl
theorem svEqs_bool {ks a b as bs} : svEqs (0 :: ks) (.bool a :: as) (.bool b :: bs) = bnd (svEqs ks as bs) fun y => some (decide (a = b) && y) := by
  simp only [svEqs, svEq]
  cases svEqs ks as bs <;> rfl
theorem svEqs_int {ks k a b as bs} : svEqs (1 :: ks) (.int k a :: as) (.int k b :: bs) = bnd (svEqs ks as bs) fun y => some (decide (a = b) && y) := by
  simp only [svEqs, svEq, if_true]
  cases svEqs ks as bs <;> rfl
theorem svEqs_str {ks a b as bs} : svEqs (2 :: ks) (.str a :: as) (.str b :: bs) = bnd (svEqs ks as bs) fun y => some (decide (a = b) && y) := by
  simp only [svEqs, svEq]
  cases svEqs ks as bs <;> rfl
/-- An interface value or a pointer against the literal nil. -/
theorem nil_eql {t : TypeId} {p : PV} : binM .eql (.nil 0) (.iface t p) (.s .nili) = some (.s (.bool false)) ∧ binM .neq (.nil 0) (.iface t p) (.s .nili) = some (.s (.bool true)) ∧ binM .eql (.nil 0) (.s .nili) (.s .nili) = some (.s (.bool true)) ∧ binM .neq (.nil 0) (.s .nili) (.s .nili) = some (.s (.bool false)) :=
  ⟨rfl, rfl, rfl, rfl⟩
/-- New elements, one after the other. -/
def partsX (sz : Nat) (dr : Bool) (H : Ob) : List (List SV) → List (Nat × PV) → Option (List (List SV) × Ob)
  | c, [] => some (c, H)
  | c, (i, x) :: r => bnd (row1 sz dr H x) fun a => if i < c.length then partsX sz dr a.2 (c.set i a.1) r else none
theorem partsX_nil {sz dr H c} : partsX sz dr H c [] = some (c, H) := rfl
theorem partsX_cons {sz dr H c i x r} : partsX sz dr H c ((i, x) :: r) = bnd (row1 sz dr H x) fun a => if i < c.length then partsX sz dr a.2 (c.set i a.1) r else none := rfl
theorem partsX_ok {sz : Nat} {dr : Bool} : ∀ {l : List (Nat × PV)} {H : Ob} {c : List (List SV)}, ¬ (dr = true ∧ (l.all fun x => decide (idb x.2 = 0)) = false) → partsX sz dr H c l = rowParts sz H c l
  | [], H, c, _ => rfl
  | (i, x) :: r, H, c, h => by
    have h1 : ¬ (dr = true ∧ idb x ≠ 0) := fun h2 => h ⟨h2.1, by simp [h2.2]⟩
    have h2 : ¬ (dr = true ∧ (r.all fun x => decide (idb x.2 = 0)) = false) := fun h2 => h ⟨h2.1, by simp only [List.all_cons, h2.2, Bool.and_false]⟩
    simp only [partsX, rowParts, row1, if_neg h1]
    cases thaws H x.cells with
    | none => rfl
    | some a =>
      simp only [bnd_some]
      by_cases hl : a.1.length = sz
      · rw [if_pos hl, bnd_some]
        by_cases hi : i < c.length
        · rw [if_pos hi, if_pos ⟨hl, hi⟩]
          exact partsX_ok h2
        · rw [if_neg hi, if_neg (fun h => hi h.2)]
      · rw [if_neg hl, if_neg (fun h => hl h.1)]
        rfl
theorem partsX_bad {sz : Nat} : ∀ {l : List (Nat × PV)} {H : Ob} {c : List (List SV)}, (l.all fun x => decide (idb x.2 = 0)) = false → partsX sz true H c l = none
  | [], H, c, h => by simp at h
  | (i, x) :: r, H, c, h => by
    simp only [partsX, row1]
    by_cases h1 : idb x = 0
    · have h2 : (r.all fun x => decide (idb x.2 = 0)) = false := by simpa [h1] using h
      rw [if_neg (fun h => h.2 h1)]
      cases thaws H x.cells with
      | none => rfl
      | some a =>
        simp only [bnd_some]
        split
        · simp only [bnd_some]
          split
          · exact partsX_bad h2
          · rfl
        · rfl
    · simp only [ne_eq, h1, not_false_eq_true, and_self, if_true]
      rfl
def vpX (T : Nat → PV) : List (Nat × MX) → List (Nat × PV)
  | [] => []
  | (i, x) :: r => (i, valX T x) :: vpX T r
theorem vpX_nil {T} : vpX T [] = [] := rfl
theorem vpX_cons {T i x r} : vpX T ((i, x) :: r) = (i, valX T x) :: vpX T r := rfl
theorem vpX_map {T : Nat → PV} : ∀ {ps : List (Nat × MX)}, vpX T ps = ps.map fun x => (x.1, valX T x.2)
  | [] => rfl
  | (i, x) :: r => by rw [vpX, vpX_map]; rfl
theorem rowsN {E : Env} {dr : Bool} {T U : Nat → PV} {H : Ob} {n sz z m ps d l Q} : WB E dr (.rows sz z m ps) T H n d U l Q = WX (partsX sz dr H (List.replicate m z) (vpX T ps)) fun r => WS E dr l (putT U d (.s (.slice r.1 true))) r.2 (n + 1) Q := by
  rw [WB_rows, vpX_map]
  have e : mstep (.rows sz z m ps) dr T H n = bnd (partsX sz dr H (List.replicate m z) (ps.map fun x => (x.1, valX T x.2))) fun r => some (.s (.slice r.1 true), r.2) := by
    have ha : ((ps.map fun x => (x.1, valX T x.2)).all fun x => decide (idb x.2 = 0)) = ps.all fun x => decide (idb (valX T x.2) = 0) := by rw [List.all_map]; rfl
    simp only [mstep]
    by_cases hd : dr = true ∧ (ps.all fun x => decide (idb (valX T x.2) = 0)) = false
    · rw [if_pos hd]
      obtain ⟨rfl, hd⟩ := hd
      rw [partsX_bad (by rw [ha]; exact hd)]
      rfl
    · rw [if_neg hd, partsX_ok (by rw [ha]; exact hd)]
  rw [e, WX_bnd]
  simp only [WX_some]
/-- An append, told as what must hold behind it. -/
theorem WX_app {E : Env} {dr : Bool} {T : Nat → PV} {d l Q} {lo e sz H n nid p rows x new} (h : Own lo e sz H n p rows) (hx : rowsOf H x = some new) (hc : ∀ c ∈ new, c.length = sz) (hl : rows.length + new.length ≤ 1073741824) (hn : n ≤ nid) (hlo : lo ≤ nid)
    (hk : ∀ p' H', Own lo e sz H' (nid + 1) p' (rows ++ new) → (∀ j, j ≠ nid → Off p j → H' j = H j) → (∀ j, j ≠ nid → Off p j → Off p' j) → WS E dr l (putT T d p') H' (nid + 1) Q) : WApp E dr e sz p x H nid d T l Q := by
  obtain ⟨p', H', h1, h2, h3, h4⟩ := h.app hx hc hl hn hlo
  exact ⟨_, h1, hk p' H' h2 h3 h4⟩
theorem rows_slice {H : Ob} {es full} : rowsOf H (.s (.slice es full)) = some es := rfl
theorem rows_nils {H : Ob} : rowsOf H (.s .nils) = some [] := rfl
theorem rows_sv {α : Type} {f : α → List SV} {s : Slc α} {H : Ob} : rowsOf H (.s (s.sv f)) = some (s.l.map f) := by cases s <;> rfl

/-! ### slices in objects -/
def lenH (ver n : Nat) : HObj → Option PV
  | .sarr _ _ v _ _ _ => if v = ver then some (.i64 n) else none
  | _ => none
theorem len_hsl {k : Nat} {H : Ob} {id ver off n : Nat} : lenM (.sl k) H (.hsl id ver off n) = lenH ver n (H id) := by
  simp only [lenM]
  cases H id <;> rfl
theorem lenH_sarr {ty sz v fz ap es ver n} : lenH ver n (.sarr ty sz v fz ap es) = if v = ver then some (.i64 n) else none := rfl
def iaH (size id ver off n : Nat) (i : Int) : HObj → Option PV
  | .sarr _ sz v _ _ es => gd (0 ≤ i ∧ i < n ∧ v = ver ∧ sz = size ∧ off + n ≤ es.length) (.aptr id ver (off + i.toNat) 0)
  | _ => none
theorem ia_hsl {size : Nat} {H : Ob} {id ver off n : Nat} {k : IntKind} {i : Int} : indexAM (.sl size) H (.hsl id ver off n) (.s (.int k i)) = iaH size id ver off n i (H id) := by
  simp only [indexAM]
  cases H id <;> rfl
theorem iaH_sarr {ty sz v fz ap es size id ver off n i} : iaH size id ver off n i (.sarr ty sz v fz ap es) = gd (0 ≤ i ∧ i < n ∧ v = ver ∧ sz = size ∧ off + n ≤ es.length) (.aptr id ver (off + i.toNat) 0) := rfl
def loadH (agg : Bool) (sz ver i off : Nat) : HObj → Option PV
  | .sarr _ _ v _ _ es => if v = ver then bnd es[i]? fun c => loadS agg sz c off else none
  | _ => none
theorem load_aptr {agg sz id ver i off} {H : Ob} : loadM agg sz H (.aptr id ver i off) = loadH agg sz ver i off (H id) := by
  simp only [loadM]
  cases H id with
  | sarr ty s v fz ap es =>
    simp only [loadH]
    by_cases h : v = ver
    · simp only [h, if_true]; cases es[i]? <;> rfl
    · simp only [h, if_false]
  | _ => rfl
theorem loadH_map {α : Type} [Inhabited α] {f : α → List SV} {l : List α} {agg sz ver i off ty s v fz ap} : loadH agg sz ver i off (.sarr ty s v fz ap (l.map f)) = if v = ver then if i < l.length then loadS agg sz (f (l.getD i default)) off else none else none := by
  simp only [loadH, List.getElem?_map]
  by_cases h : i < l.length
  · simp [h, List.getElem?_eq_getElem h, List.getD_eq_getElem?_getD, bnd_some]
  · simp [h, List.getElem?_eq_none (Nat.le_of_not_lt h), bnd_none]
theorem conv_bytes {e : TypeId} {H : Ob} {n : Nat} {l : List UInt8} : convM (.bytes e) H n (.s (.str l)) = gd (l.length ≤ 1073741824) (.hsl n 0 0 l.length, H.set n (.sarr e 1 0 false false (l.map fun b => [.int .u8 b.toNat]))) := rfl

/-! ### maps of keys that were seen -/
theorem find_str (s : List UInt8) : ∀ (l : List (List UInt8)) (i : Nat), mapFind (.str s) (l.map fun x => (SV.str x, SV.bool true)) i = some (if s ∈ l then some (i + l.idxOf s, .bool true) else none)
  | [], i => rfl
  | x :: l, i => by
    simp only [List.map_cons, mapFind, keyEq]
    by_cases h : s = x
    · subst h
      simp
    · have hx : ¬ x = s := fun e => h e.symm
      rw [decide_eq_false h]
      simp only [find_str s l (i + 1)]
      simp only [List.mem_cons, h, false_or, List.idxOf_cons, beq_eq_false_iff_ne.2 hx]
      by_cases hm : s ∈ l
      · simp only [if_pos hm, Bool.cond_false]
        congr 3
        omega
      · simp only [if_neg hm]
theorem find_int {k : IntKind} (s : Int) : ∀ (l : List Int) (i : Nat), mapFind (.int k s) (l.map fun x => (SV.int k x, SV.bool true)) i = some (if s ∈ l then some (i + l.idxOf s, .bool true) else none)
  | [], i => rfl
  | x :: l, i => by
    simp only [List.map_cons, mapFind, keyEq, if_true]
    by_cases h : s = x
    · subst h
      simp
    · have hx : ¬ x = s := fun e => h e.symm
      rw [decide_eq_false h]
      simp only [find_int s l (i + 1)]
      simp only [List.mem_cons, h, false_or, List.idxOf_cons, beq_eq_false_iff_ne.2 hx]
      by_cases hm : s ∈ l
      · simp only [if_pos hm, Bool.cond_false]
        congr 3
        omega
      · simp only [if_neg hm]
theorem look_str {H : Ob} {id : Nat} {l : List (List UInt8)} {s : List UInt8} (h : H id = .map (l.map fun x => (SV.str x, SV.bool true))) : lookM .str (some (.bool false)) false H (.map id) (.s (.str s)) = some (.s (.bool (decide (s ∈ l)))) := by
  simp only [lookM, h, keyM, if_true, find_str]
  by_cases hm : s ∈ l <;> simp [hm]
theorem look_int {k : IntKind} {H : Ob} {id : Nat} {l : List Int} {s : Int} (h : H id = .map (l.map fun x => (SV.int k x, SV.bool true))) : lookM .int (some (.bool false)) false H (.map id) (.s (.int k s)) = some (.s (.bool (decide (s ∈ l)))) := by
  simp only [lookM, h, keyM, if_true, find_int]
  by_cases hm : s ∈ l <;> simp [hm]
theorem mupd_str {H : Ob} {id : Nat} {l : List (List UInt8)} {s : List UInt8} (h : H id = .map (l.map fun x => (SV.str x, SV.bool true))) (hs : s ∉ l) : mupdM .str H (.map id) (.s (.str s)) (.s (.bool true)) = some (H.set id (.map ((l ++ [s]).map fun x => (SV.str x, SV.bool true)))) := by
  simp only [mupdM, h, keyM, if_true, find_str, if_neg hs, List.map_append, List.map_cons, List.map_nil]
theorem mupd_int {k : IntKind} {H : Ob} {id : Nat} {l : List Int} {s : Int} (h : H id = .map (l.map fun x => (SV.int k x, SV.bool true))) (hs : s ∉ l) : mupdM .int H (.map id) (.s (.int k s)) (.s (.bool true)) = some (H.set id (.map ((l ++ [s]).map fun x => (SV.int k x, SV.bool true)))) := by
  simp only [mupdM, h, keyM, if_true, find_int, if_neg hs, List.map_append, List.map_cons, List.map_nil]

/-! ### calls -/
/-- A call that leaves the objects that were there as they were. -/
def CF (E : Env) (dr : Bool) (f : FuncId) (args : List PV) (H : Ob) (n : Nat) (v : PV) : Prop := ∃ H1 n1, doCall E (calL E) (runL E) dr f args H n = some (.ret v, H1, n1) ∧ n ≤ n1 ∧ ∀ j, j < n → H1 j = H j
theorem WC_cf {E : Env} {dr : Bool} {f : FuncId} {args : List PV} {H : Ob} {n : Nat} {v : PV} {d T l Q} (h : CF E dr f args H n v) (hk : ∀ H1 n1, n ≤ n1 → (∀ j, j < n → H1 j = H j) → WS E dr l (putT T d v) H1 n1 Q) : WCs E dr f args H n d T l Q := by
  obtain ⟨H1, n1, h1, h2, h3⟩ := h
  exact ⟨v, H1, n1, h1, hk H1 n1 h2 h3⟩
theorem WV_cf {E : Env} {dr : Bool} {fv : PV} {c : FuncId × List PV × List PV} {args : List PV} {H : Ob} {n : Nat} {v : PV} {d T l Q} (hc : callee fv = some c) (h : CF E dr c.1 (c.2.1 ++ args ++ c.2.2) H n v) (hk : ∀ H1 n1, n ≤ n1 → (∀ j, j < n → H1 j = H j) → WS E dr l (putT T d v) H1 n1 Q) : WVs E dr fv args H n d T l Q := by
  obtain ⟨H1, n1, h1, h2, h3⟩ := h
  exact ⟨c, hc, v, H1, n1, h1, hk H1 n1 h2 h3⟩
theorem WC_run {E : Env} {f : FuncId} {args : List PV} {H : Ob} {n : Nat} {R : PV → Ob → Nat → Prop} {d T l Q} (hr : E.ref f = true) (hc : ∃ v H1 n1, runL E f args H n = some (.ret v, H1, n1) ∧ R v H1 n1) (hk : ∀ v H1 n1, R v H1 n1 → WS E false l (putT T d v) H1 n1 Q) : WCs E false f args H n d T l Q := WC_ref hr rfl hc hk
/-- A call by content whose arguments hold no object. -/
theorem WC_pure {E : Env} {dr : Bool} {f : FuncId} {args : List PV} {H : Ob} {n : Nat} {v : PV} {d T l Q} (hr : (E.ref f || E.loc f) = false) (hl : lendL H args = some (args, H)) (hi : idbL args = 0) (hz : args.all (fzA H) = true) (hc : calL E f args [] = some (.ret v, [])) (hk : WS E dr l (putT T d v) H n Q) : WCs E dr f args H n d T l Q :=
  WC_own (K := fun v H1 n1 => WS E dr l (putT T d v) H1 n1 Q) hr hl hi (fun _ => hz) hc hk
/-- A call by content that is lent slices of this run's own. -/
theorem WC_lend {E : Env} {dr : Bool} {f : FuncId} {args a : List PV} {H H1 : Ob} {n : Nat} {v : PV} {d T l Q} (hr : (E.ref f || E.loc f) = false) (hl : lendL H args = some (a, H1)) (hi : idbL a = 0) (hd : dr = true → args.all (fzA H) = true) (hc : calL E f a [] = some (.ret v, [])) (hk : WS E dr l (putT T d v) H1 n Q) : WCs E dr f args H n d T l Q :=
  WC_own (K := fun v H1 n1 => WS E dr l (putT T d v) H1 n1 Q) hr hl hi hd hc hk
/-- No object. -/
def pureA : List PV → Bool
  | [] => true
  | .s _ :: r => pureA r
  | .agg l :: r => (l.all fun p => match p with | .s _ => true | _ => false) && pureA r
  | _ => false
theorem pureA_map {l : List PV} (h : (l.all fun p => match p with | .s _ => true | _ => false) = true) : ∃ m : List SV, l = m.map .s := by
  induction l with
  | nil => exact ⟨[], rfl⟩
  | cons p l ih =>
    simp only [List.all_cons, Bool.and_eq_true] at h
    obtain ⟨m, rfl⟩ := ih h.2
    cases p with
    | s v => exact ⟨v :: m, rfl⟩
    | _ => cases h.1
theorem all_fzC {H : Ob} : ∀ {m : List SV}, (m.map PV.s).all (fzC H) = true
  | [] => rfl
  | v :: m => by simp only [List.map_cons, List.all_cons, fzC, all_fzC, Bool.and_self]
theorem pure_lend {H : Ob} : ∀ {l : List PV}, pureA l = true → lendL H l = some (l, H) ∧ idbL l = 0 ∧ l.all (fzA H) = true
  | [], _ => ⟨lendL_nil, by simp [idbL], rfl⟩
  | .s v :: r, h => by
    obtain ⟨h1, h2, h3⟩ := pure_lend (H := H) (l := r) h
    exact ⟨by rw [lendL_cons, lend_s, bnd_some, h1]; rfl, by simp only [idbL, idb, h2]; rfl, by simp only [List.all_cons, fzA, fzC, h3, Bool.and_self]⟩
  | .agg l :: r, h => by
    simp only [pureA, Bool.and_eq_true] at h
    obtain ⟨h1, h2, h3⟩ := pure_lend (H := H) (l := r) h.2
    obtain ⟨m, rfl⟩ := pureA_map h.1
    have e : lend H (.agg (m.map .s)) = some (.agg (m.map .s), H) := lend_st
    have e2 : idb (.agg (m.map .s)) = 0 := idb_st
    exact ⟨by rw [lendL_cons, e, bnd_some, h1]; rfl, by simp only [idbL, e2, h2]; rfl, by simp only [List.all_cons, fzA, all_fzC, h3, Bool.and_self]⟩
  | .ptr _ _ :: r, h => by cases h
  | .eptr _ _ _ :: r, h => by cases h
  | .aptr _ _ _ _ :: r, h => by cases h
  | .hsl _ _ _ _ :: r, h => by cases h
  | .func _ _ _ :: r, h => by cases h
  | .iface _ _ :: r, h => by cases h
  | .map _ :: r, h => by cases h
  | .tuple _ :: r, h => by cases h
/-- The everyday call. -/
theorem WC_p {E : Env} {dr : Bool} {f : FuncId} {args : List PV} {H : Ob} {n : Nat} {v : PV} {d T l Q} (hr : (E.ref f || E.loc f) = false) (hp : pureA args = true) (hc : calL E f args [] = some (.ret v, [])) (hk : WS E dr l (putT T d v) H n Q) : WCs E dr f args H n d T l Q :=
  WC_pure hr (pure_lend hp).1 (pure_lend (H := H) hp).2.1 (pure_lend hp).2.2 hc hk
theorem CF_pure {E : Env} {dr : Bool} {f : FuncId} {args : List PV} {H : Ob} {n : Nat} {v : PV} (hr : (E.ref f || E.loc f) = false) (hl : lendL H args = some (args, H)) (hi : idbL args = 0) (hz : args.all (fzA H) = true) (hc : calL E f args [] = some (.ret v, [])) : CF E dr f args H n v := by
  obtain ⟨v', H1, n1, h1, h2, h3, h4⟩ := WC_own (dr := dr) (K := fun w H1 n1 => w = v ∧ H1 = H ∧ n1 = n) (H := H) (n := n) hr hl hi (fun _ => hz) hc ⟨rfl, rfl, rfl⟩
  subst h2; subst h3; subst h4
  exact ⟨_, _, h1, Nat.le_refl _, fun _ _ => rfl⟩
theorem CF_p {E : Env} {dr : Bool} {f : FuncId} {args : List PV} {H : Ob} {n : Nat} {v : PV} (hr : (E.ref f || E.loc f) = false) (hp : pureA args = true) (hc : calL E f args [] = some (.ret v, [])) : CF E dr f args H n v := CF_pure hr (pure_lend hp).1 (pure_lend (H := H) hp).2.1 (pure_lend hp).2.2 hc
/-- A function run in place that leaves the objects that were there as they were. -/
def FinF (rs : List MR) (H0 : Ob) (n0 : Nat) (v : PV) : Qt := FinR rs fun p H n => p = v ∧ n0 ≤ n ∧ ∀ j, j < n0 → H j = H0 j
theorem fn_ref {E : Env} {f : FuncId} {D : List Nat} {nt : Nat} {rs : List MR} {c : SC} {args : List PV} {v : PV} {H : Ob} {n : Nat} (hr : E.ref f = true) (hf : sF E f D = some ⟨nt, rs, c⟩) (hl : args.length ≤ nt) (h : WP E c (enter args) H n (FinF rs H n v)) : CF E false f args H n v := by
  obtain ⟨p, H1, n1, h1, h2, h3, h4⟩ := fn_run hf hl h
  subst h2
  refine ⟨H1, n1, ?_, h3, h4⟩
  unfold doCall
  rw [hr]
  simp only [if_true, Bool.false_eq_true, if_false]
  exact h1

/-! ### a loop that counts -/
def contQ (i j : Nat) (p : Nat → Prop) (I : (Nat → PV) → Ob → Nat → Prop) (Q : Qt) : Qt := fun e T H n => match e with
  | .normal => p j ∧ T i = .i64 ((j + 1 : Nat) : Int) ∧ I T H n
  | e => Q e T H n
section
variable {E : Env} {T : Nat → PV} {H : Ob} {n : Nat} {Q : Qt}
theorem contQ_normal {i j p I} : contQ i j p I Q .normal T H n = (p j ∧ T i = .i64 ((j + 1 : Nat) : Int) ∧ I T H n) := rfl
theorem contQ_ret {i j p I} : contQ i j p I Q .ret T H n = Q .ret T H n := rfl
theorem contQ_exit {i j p I x} : contQ i j p I Q (.exit x) T H n = Q (.exit x) T H n := rfl
@[congr] theorem contQ_congr {i j p I e} : contQ i j p I Q e T H n = contQ i j p I Q e T H n := rfl
/-- A loop that counts from 0 to N: each round shows p of its number or leaves the loop. -/
theorem WP_scan {c : SC} (hno : noOrig c = true) (i N : Nat) (p : Nat → Prop) (I : Nat → (Nat → PV) → Ob → Nat → Prop) (hi : T i = .i64 0) (hI : I 0 T H n)
    (hr : ∀ j T' H' n', j < N → Kp (wr c) T T' → T' i = .i64 j → I j T' H' n' → (∀ m, m < j → p m) → WP E c T' H' n' (contQ i j p (I (j + 1)) Q))
    (he : ∀ T' H' n', Kp (wr c) T T' → T' i = .i64 N → I N T' H' n' → (∀ m, m < N → p m) → WP E c T' H' n' (nextQ (fun _ _ _ _ => False) 0 Q)) : WP E (.loop c) T H n Q := by
  refine WP_loop hno (fun k T' H' n' => ∃ j, j + k = N ∧ T' i = .i64 j ∧ I j T' H' n' ∧ ∀ m, m < j → p m) (k0 := N) ⟨0, by omega, hi, hI, fun m hm => by omega⟩ ?_
  rintro k T' H' n' hf ⟨j, hj, hi', hI', hp⟩
  by_cases hlt : j < N
  · obtain ⟨e, T1, H1, n1, h1, ho, h2⟩ := hr j T' H' n' hlt hf hi' hI' hp
    refine ⟨e, T1, H1, n1, h1, ho, ?_⟩
    cases e with
    | normal =>
      obtain ⟨g1, g2, g3⟩ := h2
      refine ⟨k - 1, by omega, j + 1, by omega, g2, g3, fun m hm => ?_⟩
      by_cases e1 : m = j
      · rw [e1]; exact g1
      · exact hp m (by omega)
    | _ => exact h2
  · have e1 : j = N := by omega
    subst e1
    obtain ⟨e, T1, H1, n1, h1, ho, h2⟩ := he T' H' n' hf hi' hI' hp
    refine ⟨e, T1, H1, n1, h1, ho, ?_⟩
    cases e with
    | normal =>
      obtain ⟨_, _, h3⟩ := h2
      exact h3.elim
    | _ => exact h2
/-- A function's result by content, of which something is known. -/
def FinE (rs : List MR) (R : PV → Prop) : Qt := fun e T H n => (e = .ret ∨ e = .normal) ∧ ∃ vs, resM T H rs = some vs ∧ ∃ v, own 0 H (packR vs) = some v ∧ R v
theorem FinE_ret {rs R} : FinE rs R .ret T H n = WX (resM T H rs) fun vs => WX (own 0 H (packR vs)) R := by simp [FinE, WX]
theorem FinE_normal {rs R} : FinE rs R .normal T H n = WX (resM T H rs) fun vs => WX (own 0 H (packR vs)) R := by simp [FinE, WX]
theorem fn_ex {f : FuncId} {D : List Nat} {nt : Nat} {rs : List MR} {c : SC} {args : List PV} {R : PV → Prop} (hf : sF E f D = some ⟨nt, rs, c⟩) (hl : args.length ≤ nt) (h : WP E c (enter args) (Ob.of []) 0 (FinE rs R)) (hlf : E.loc f = false := by rfl) : ∃ v, calL E f args [] = some (.ret v, []) ∧ R v := by
  obtain ⟨e, T1, H1, n1, h1, _, h2, vs, h3, v, h4, h5⟩ := h
  refine ⟨v, calS_of (r := (.ret (packR vs), H1, n1)) hf hl h1 ?_ (finE_no hlf ?_), h5⟩
  · unfold finM
    rcases h2 with e1 | e1 <;> (subst e1; simp only [h3, bnd_some])
  · simp only [ownOut, h4, bnd_some]
end
theorem all_iff {α : Type} {l : List α} {p : α → Bool} (d : α) : l.all p = true ↔ ∀ j, j < l.length → p (l.getD j d) = true := by
  rw [List.all_eq_true]
  constructor
  · intro h j hj
    exact h _ (getD_mem d hj)
  · intro h x hx
    obtain ⟨j, hj, e⟩ := List.getElem_of_mem hx
    have := h j hj
    rw [List.getD_eq_getElem?_getD, List.getElem?_eq_getElem hj] at this
    simpa [e] using this
theorem any_iff {α : Type} {l : List α} {p : α → Bool} (d : α) : l.any p = true ↔ ∃ j, j < l.length ∧ p (l.getD j d) = true := by
  rw [List.any_eq_true]
  constructor
  · rintro ⟨x, hx, h⟩
    obtain ⟨j, hj, e⟩ := List.getElem_of_mem hx
    refine ⟨j, hj, ?_⟩
    rw [List.getD_eq_getElem?_getD, List.getElem?_eq_getElem hj]
    simpa [e] using h
  · rintro ⟨j, hj, h⟩
    exact ⟨_, getD_mem d hj, h⟩
/-- A call by content of one slice of this run's own. -/
theorem WC_own1 {E : Env} {α : Type} {f : α → List SV} {l : List α} {lo e sz H n0 p} {g : FuncId} {v : PV} {n d T r Q} (h : Own lo e sz H n0 p (l.map f)) (hr : (E.ref g || E.loc g) = false) (hc : ∀ s : Slc α, s.l = l → calL E g [.s (s.sv f)] [] = some (.ret v, []))
    (hk : ∀ H', Own lo e sz H' n0 p (l.map f) → (∀ j, Off p j → H' j = H j) → WS E false r (putT T d v) H' n Q) : WCs E false g [p] H n d T r Q := by
  obtain ⟨s, H', h1, h2, h3, h4⟩ := h.lend
  refine WC_lend hr (a := [.s (s.sv f)]) (H1 := H') ?_ (by simp [idbL, idb]) (fun h => by cases h) (hc s h2) (hk H' h3 h4)
  rw [lendL_cons, h1, bnd_some, lendL_nil]
  rfl

/-! ### what operations of a drawn region touch -/
theorem Own.heads {lo e sz H n p rows} (h : Own lo e sz H n p rows) {j : Nat} (hj : j ∈ heads p) : ¬ Off p j := by
  intro ho
  rcases h with ⟨rfl, rfl⟩ | ⟨rfl, _⟩ | ⟨id, ver, fz, _, _, rfl, _⟩
  · simp [Vm.heads, heads1, heads0] at hj
  · simp [Vm.heads, heads1, heads0] at hj
  · have : j = id := by simpa [Vm.heads, heads1, heads0] using hj
    exact ho _ _ _ _ rfl this
theorem Own.apart {lo e sz H n p rows} (h : Own lo e sz H n p rows) {j : Nat} (hj : Off p j) : (Vm.heads p).all (fun x => ![j].contains x) = true := by
  rw [List.all_eq_true]
  intro x hx
  have : x ≠ j := fun e => h.heads hx (e ▸ hj)
  simp [this]
theorem heads_s {v : SV} : heads (.s v) = [] := rfl
theorem heads_ptr {id off : Nat} : heads (.ptr id off) = [id] := rfl
theorem heads_hsl {id ver off n : Nat} : heads (.hsl id ver off n) = [id] := rfl
theorem heads_eptr {es i off} : heads (.eptr es i off) = [] := rfl
/-- An append against a look at a local struct. -/
theorem held_app {T : Nat → PV} {n0 k a b i c : Nat} {p : PV} {v : SV} {id off : Nat} {lo e sz H n rows} (ha : T a = p) (hb : T b = .s v) (hc : T c = .ptr id off) (h : Own lo e sz H n p rows) (ho : Off p id) (hne : n0 + k ≠ id) :
    heldX T n0 (k, 2, [.t a, .t b], i, 1, [.t c]) = true := by
  have e1 : touchX T (n0 + k) 2 [.t a, .t b] = (n0 + k) :: heads p := by simp [touchX, valX, ha, hb, heads_s]
  have e2 : touchX T (n0 + i) 1 [.t c] = [id] := by simp [touchX, valX, hc, heads_ptr]
  unfold heldX disj
  simp only [e1, e2, List.all_cons, h.apart ho, Bool.and_true]
  simp [hne]
theorem all1 {α : Type} {f : α → Bool} {a : α} (h : f a = true) : [a].all f = true := by simp [h]
theorem all2 {α : Type} {f : α → Bool} {a b : α} (h : f a = true) (h' : f b = true) : [a, b].all f = true := by simp [h, h']
theorem all3 {α : Type} {f : α → Bool} {a b c : α} (h : f a = true) (h' : f b = true) (h2 : f c = true) : [a, b, c].all f = true := by simp [h, h', h2]

/-! ### own slices, frozen and handed on where the order is open -/
theorem Own.frz {lo e sz H n p rows} (h : Own lo e sz H n p rows) : Own lo e sz (frz1 H p) n p rows ∧ (∀ j, Off p j → frz1 H p j = H j) ∧ fzA (frz1 H p) p = true := by
  rcases h with ⟨rfl, rfl⟩ | ⟨rfl, h⟩ | ⟨id, ver, fz, h1, h2, rfl, h⟩
  · exact ⟨.nil, fun _ _ => rfl, rfl⟩
  · exact ⟨.inr (.inl ⟨rfl, h⟩), fun _ _ => rfl, rfl⟩
  · have hf : frz1 H (.hsl id ver 0 rows.length) = H.set id (.sarr e sz ver true true rows) := by
      show freeze1 H id = _
      simp only [freeze1, h]
    rw [hf]
    have hid : (H.set id (.sarr e sz ver true true rows)) id = .sarr e sz ver true true rows := if_pos rfl
    refine ⟨.inr (.inr ⟨id, ver, true, h1, h2, rfl, hid⟩), fun j hj => if_neg (hj _ _ _ _ rfl), ?_⟩
    simp [fzA, fzC, hid]
theorem Own.lendF {α : Type} {f : α → List SV} {l : List α} {lo e sz H n p} (h : Own lo e sz H n p (l.map f)) (hz : fzA H p = true) : ∃ s : Slc α, Vm.lend H p = some (.s (s.sv f), H) ∧ s.l = l := by
  have hr := h.rows
  rcases h with ⟨rfl, h⟩ | ⟨rfl, h⟩ | ⟨id, ver, fz, h1, h2, rfl, h⟩
  · have : l = [] := by simpa using h
    subst this
    exact ⟨.nil, lend_s, rfl⟩
  · exact ⟨.mk l true, lend_s, rfl⟩
  · obtain ⟨q, k1, k2, _⟩ := fzA_lend hz
    refine ⟨.mk l false, ?_, rfl⟩
    have e : freeze1 H id = H := by
      simp only [Vm.lend, hr, bnd_some] at k1
      injection k1 with k1
      injection k1
    simp only [Vm.lend, hr, bnd_some, e]
    rfl
/-- A call where the order is open, handed one frozen slice of this run's own and something plain. -/
theorem WC_fz1 {E : Env} {dr : Bool} {α : Type} {f : α → List SV} {l : List α} {lo e sz H n0 p} {g : FuncId} {v : PV} {n d T r Q} {rest : List PV} (h : Own lo e sz H n0 p (l.map f)) (hz : fzA H p = true) (hp : pureA rest = true) (hr : (E.ref g || E.loc g) = false)
    (hc : ∀ s : Slc α, s.l = l → calL E g (.s (s.sv f) :: rest) [] = some (.ret v, [])) (hk : WS E dr r (putT T d v) H n Q) : WCs E dr g (p :: rest) H n d T r Q := by
  obtain ⟨s, h1, h2⟩ := h.lendF hz
  obtain ⟨k1, k2, k3⟩ := pure_lend (H := H) hp
  refine WC_lend hr (a := .s (s.sv f) :: rest) (H1 := H) ?_ ?_ (fun _ => by rw [List.all_cons, hz, k3]; rfl) (hc s h2) hk
  · rw [lendL_cons, h1, bnd_some, k1]; rfl
  · simp only [idbL, idb, k2]; rfl
end Go.Vm
end
