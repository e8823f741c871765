/- The decoder's methods: numbers and texts. -/
import Derived.Test.YtfgkhgkgaedcmaaGreatCbT
set_option linter.unusedVariables false
set_option linter.unusedSimpArgs false
set_option maxRecDepth 100000
namespace Go.Vm

theorem bad12 : (!decide ((12 : Int) = 0)) = true := by decide
/-- The bytes left, and whether all was well. -/
abbrev Dst := Slc UInt8 × Bool
def dbox (d : Dst) : HObj := .box 64 (List.map PV.s [d.1.sv bRow, .bool d.2])
def dNum (d : Dst) : Int × Dst := match uvD 0 0 d.1.l with
  | some (n, k) => if n ≤ 2147483647 then (n, d.1.cut k d.1.l.length, d.2) else (0, d.1, false)
  | none => (0, d.1, false)
def dTxt (d : Dst) : List UInt8 × Dst := match dStr d.1.l with
  | some (t, k) => (t, d.1.cut k d.1.l.length, d.2)
  | none => ([], d.1, false)
theorem nilc {id off : Nat} : nilCheckV (.ptr id off) = some (.ptr id off) := rfl
theorem of0 {o : HObj} {l : List HObj} : Ob.of (o :: l) 0 = o := rfl
theorem fin_s {lc : Bool} {H : Ob} {n : Nat} {v : SV} {d : Dst} (h : H 0 = dbox d) : finE lc 1 (.ret (.s v), H, n) = some (.ret (.s v), [dbox d]) := by
  have : finC 1 (.ret (.s v), H, n) = some (.ret (.s v), [dbox d]) := by
    simp only [finC, ownOut, own, bnd_some, firstO, h, List.nil_append, ownObjs]
    rfl
  cases lc with
  | true => exact this
  | false => exact this
theorem decNum (d : Dst) (hl : d.1.l.length ≤ 1073741824) : calL EE 25 [.ptr 0 0] [dbox d] = some (.ret (.i64 (dNum d).1), [dbox (dNum d).2]) := by
  have h : ∃ r, calL EE 25 [.ptr 0 0] [dbox d] = some r ∧ r = (.ret (.i64 (dNum d).1), [dbox (dNum d).2]) := by
    refine fn_loc f25 (by simp) ?_
    unfold c25
    simp only [go_sem, reduceIte, Nat.reduceEqDiff, Nat.reduceAdd, Nat.reduceLeDiff, Nat.reduceLT, dbox, nilc, of0]
    refine WC_p rfl rfl (decUint d.1 hl) ?_
    unfold dNum
    cases hu : uvD 0 0 d.1.l with
    | none =>
      simp only [go_sem, reduceIte, Nat.reduceEqDiff, Nat.reduceAdd, Nat.reduceLeDiff, Nat.reduceLT, uintR, extractV, List.getElem?_cons_succ, List.getElem?_cons_zero, nilc, of0, bad12]
      rw [fin_s (d := (d.1, false)) rfl, WX_some]
      rfl
    | some r =>
      obtain ⟨n, k⟩ := r
      obtain ⟨k1, k2, k3⟩ := uvD_le hu
      have hn := uvD_lt (by decide) hu
      simp only [go_sem, reduceIte, Nat.reduceEqDiff, Nat.reduceAdd, Nat.reduceLeDiff, Nat.reduceLT, uintR, extractV, List.getElem?_cons_succ, List.getElem?_cons_zero, nilc, of0, sl_bytes, decide_true, Bool.not_true, Bool.false_or]
      split
      · rename_i h
        simp only [decide_eq_true_eq] at h
        rw [fin_s (d := (d.1, false)) rfl, WX_some, if_neg (by omega)]
        rfl
      · rename_i h
        simp only [decide_eq_true_eq] at h
        refine ⟨by omega, ?_⟩
        rw [fin_s (d := (d.1.cut k d.1.l.length, d.2)) rfl, WX_some, if_pos (by omega), wrap_in (x := (n : Int)) (by omega) (by omega)]
        rfl
  obtain ⟨r, h1, rfl⟩ := h
  exact h1
theorem dStr_le {l t : List UInt8} {k : Nat} (h : dStr l = some (t, k)) : 0 < k ∧ k ≤ l.length ∧ t.length ≤ l.length := by
  unfold dStr at h
  cases hu : uvD 0 0 l with
  | none => rw [hu] at h; cases h
  | some r =>
    obtain ⟨n, j⟩ := r
    obtain ⟨k1, k2, k3⟩ := uvD_le hu
    rw [hu] at h
    simp only at h
    split at h
    · injection h with h
      injection h with h1 h2
      subst h1 h2
      simp only [List.length_take, List.length_drop]
      omega
    · cases h
theorem decTxt (d : Dst) (hl : d.1.l.length ≤ 1073741824) : calL EE 67 [.ptr 0 0] [dbox d] = some (.ret (.s (.str (dTxt d).1)), [dbox (dTxt d).2]) := by
  have h : ∃ r, calL EE 67 [.ptr 0 0] [dbox d] = some r ∧ r = (.ret (.s (.str (dTxt d).1)), [dbox (dTxt d).2]) := by
    refine fn_loc f67 (by simp) ?_
    unfold c67
    simp only [go_sem, reduceIte, Nat.reduceEqDiff, Nat.reduceAdd, Nat.reduceLeDiff, Nat.reduceLT, dbox, nilc, of0]
    refine WC_p rfl rfl (decStr d.1 hl) ?_
    unfold dTxt
    cases hu : dStr d.1.l with
    | none =>
      simp only [go_sem, reduceIte, Nat.reduceEqDiff, Nat.reduceAdd, Nat.reduceLeDiff, Nat.reduceLT, strR, extractV, List.getElem?_cons_succ, List.getElem?_cons_zero, nilc, of0, bad12]
      rw [fin_s (d := (d.1, false)) rfl, WX_some]
      rfl
    | some r =>
      obtain ⟨t, k⟩ := r
      obtain ⟨k1, k2, k3⟩ := dStr_le hu
      simp only [go_sem, reduceIte, Nat.reduceEqDiff, Nat.reduceAdd, Nat.reduceLeDiff, Nat.reduceLT, strR, extractV, List.getElem?_cons_succ, List.getElem?_cons_zero, nilc, of0, sl_bytes, decide_true, Bool.not_true, Bool.false_eq_true]
      refine ⟨by omega, ?_⟩
      rw [fin_s (d := (d.1.cut k d.1.l.length, d.2)) rfl, WX_some]
      rfl
  obtain ⟨r, h1, rfl⟩ := h
  exact h1
/-! ### calls with the decoder -/
theorem ids_d {id : Nat} : idsOf [.ptr id 0] = [id] := rfl
theorem ids_df {id : Nat} {g : FuncId} : idsOf [.ptr id 0, .func g [.ptr id 0] []] = [id] := rfl
theorem dbox_ok {d : Dst} : locOk (dbox d) = true := rfl
/-- A method of the decoder. -/
theorem WC_m {dr : Bool} {g : FuncId} {H : Ob} {n id : Nat} {d d' : Dst} {v : PV} {t T r Q} (hr : EE.ref g = false) (hlf : EE.loc g = true) (hH : H id = dbox d) (hc : calL EE g [.ptr 0 0] [dbox d] = some (.ret v, [dbox d'])) (hv : ∀ f, ren f v = some v)
    (hk : WS EE dr r (putT T t v) (H.set id (dbox d')) n Q) : WCs EE dr g [.ptr id 0] H n t T r Q :=
  WC_loc1 hr hlf ids_d (by simp [renL, ren, idxOf, bnd_some]) hH dbox_ok hc rfl (hv _) hk
theorem ren_s {v : SV} (f : Nat → Option Nat) : ren f (.s v) = some (.s v) := rfl
theorem ren_st {l : List SV} (f : Nat → Option Nat) : ren f (.st l) = some (.st l) := by
  show ren f (.agg (l.map .s)) = some (.agg (l.map .s))
  simp only [ren, (ren_map l).1, bnd_some]
/-- A slice that grew from nil. -/
def Exa (p : PV) (rows : List (List SV)) : Prop := (p = .s .nils ∧ rows = []) ∨ (rows ≠ [] ∧ ∃ id ver k, p = .hsl id ver 0 k)
theorem app_exa {lo e sz H n nid p x rows new p' H'} (h : Own lo e sz H n p rows) (hx : rowsOf H x = some new) (hne : new ≠ []) (ha : appendM e sz H nid p x = some (p', H')) : ∃ id ver k, p' = .hsl id ver 0 k := by
  have he : new.isEmpty = false := by cases new <;> first | rfl | exact absurd rfl hne
  unfold appendM at ha
  rw [hx] at ha
  simp only [he, Bool.false_eq_true, if_false] at ha
  rcases h with ⟨rfl, rfl⟩ | ⟨rfl, h⟩ | ⟨id, ver, fz, h1, h2, rfl, h⟩
  · split at ha
    · simp only at ha
      split at ha
      · injection ha with ha; injection ha with ha; exact ⟨_, _, _, ha.symm⟩
      · cases ha
    · cases ha
  · split at ha
    · simp only [if_true] at ha
      split at ha
      · injection ha with ha; injection ha with ha; exact ⟨_, _, _, ha.symm⟩
      · cases ha
    · cases ha
  · split at ha
    · simp only [h] at ha
      split at ha
      · injection ha with ha; injection ha with ha; exact ⟨_, _, _, ha.symm⟩
      · cases ha
    · cases ha
theorem WX_app3 {E : Env} {dr : Bool} {T : Nat → PV} {d l Q} {lo e sz H n nid p rows x new} (h : Own lo e sz H n p rows) (hx : rowsOf H x = some new) (hne : new ≠ []) (hc : ∀ c ∈ new, c.length = sz) (hl : rows.length + new.length ≤ 1073741824) (hn : n ≤ nid) (hlo : lo ≤ nid)
    (hk : ∀ p' H', Own lo e sz H' (nid + 1) p' (rows ++ new) → Exa p' (rows ++ new) → (∀ j, j ≠ nid → Off p j → H' j = H j) → WS E dr l (putT T d p') H' (nid + 1) Q) : WApp E dr e sz p x H nid d T l Q := by
  obtain ⟨p', H', h1, h2, h3, h4, h5⟩ := h.app2 hx hc hl hn hlo
  exact ⟨_, h1, hk p' H' h2 (.inr ⟨by simp [hne], app_exa h hx hne h1⟩) h3⟩
theorem fin_d {H : Ob} {n : Nat} {p : PV} {d : Dst} {e : TypeId} {sz : Nat} {all : List (List SV)} (h : Own 1 e sz H n p all) (hx : Exa p all) (h0 : H 0 = dbox d) : ∃ o hs', finE true 1 (.ret p, H, n) = some (.ret o, hs') ∧ ((o = .s .nils ∧ all = [] ∧ hs' = [dbox d]) ∨ (all ≠ [] ∧ ∃ fz, o = .hsl 1 0 0 all.length ∧ hs' = [dbox d, .sarr e sz 0 fz true all])) := by
  have hf : firstO H 1 = [dbox d] := by simp only [firstO, h0, List.nil_append]
  have hd : ownObjs 1 H [dbox d] = some [dbox d] := rfl
  unfold finE
  rw [if_pos rfl]
  rcases h with ⟨rfl, rfl⟩ | ⟨rfl, hcl⟩ | ⟨id, ver, fz, h1, h2, rfl, h⟩
  · refine ⟨_, _, ?_, .inl ⟨rfl, rfl, rfl⟩⟩
    simp only [finD, finC, ownOut, own, bnd_some, hf, hd]
  · rcases hx with ⟨hx, _⟩ | ⟨_, _, _, _, hx⟩ <;> cases hx
  · have hne : all ≠ [] := by
      rcases hx with ⟨hx, _⟩ | ⟨hx, _⟩
      · cases hx
      · exact hx
    refine ⟨_, _, ?_, .inr ⟨hne, fz, rfl, rfl⟩⟩
    simp only [finD]
    rw [if_pos h1, h]
    simp only [hf]
    rw [if_pos ⟨trivial, trivial, trivial, rfl⟩]
    rfl
/-- The list of what a method reads. -/
structure LisC (l g : FuncId) (e : TypeId) (sz : Nat) (d d' : Dst) (all : List (List SV)) : Prop where
  run : ∃ o hs', calL EE l [.ptr 0 0, .func g [.ptr 0 0] []] [dbox d] = some (.ret o, hs') ∧ ((o = .s .nils ∧ all = [] ∧ hs' = [dbox d']) ∨ (all ≠ [] ∧ ∃ fz, o = .hsl 1 0 0 all.length ∧ hs' = [dbox d', .sarr e sz 0 fz true all]))
theorem WC_l {dr : Bool} {l g : FuncId} {e : TypeId} {sz : Nat} {H : Ob} {n id : Nat} {d d' : Dst} {all : List (List SV)} {t T r Q} (hr : EE.ref l = false) (hlf : EE.loc l = true) (hH : H id = dbox d) (hc : LisC l g e sz d d' all) (hid : id < n)
    (hk : ∀ p1 H1, Own n e sz H1 (n + 1) p1 all → Exa p1 all → H1 id = dbox d' → (∀ j, j ≠ n → j ≠ id → H1 j = H j) → WS EE dr r (putT T t p1) H1 (n + 1) Q) : WCs EE dr l [.ptr id 0, .func g [.ptr id 0] []] H (n + 1) t T r Q := by
  have go : ∀ {v : PV} {H1 : Ob}, doLoc (calL EE) l [.ptr id 0, .func g [.ptr id 0] []] H n = some (.ret v, H1) → WS EE dr r (putT T t v) H1 (n + 1) Q → WCs EE dr l [.ptr id 0, .func g [.ptr id 0] []] H (n + 1) t T r Q := fun {v H1} h1 h2 => by
    refine ⟨v, H1, n + 1, ?_, h2⟩
    unfold doCall
    rw [hr, hlf]
    simp only [Bool.false_eq_true, if_false, if_true, Nat.add_sub_cancel, h1, bnd_some]
  have ha : renL (fun i => idxOf [id] i 0) [.ptr id 0, .func g [.ptr id 0] []] = some [.ptr 0 0, .func g [.ptr 0 0] []] := by simp [renL, ren, idxOf, bnd_some]
  have hok : [id].all (fun i => locOk (H i)) = true := by simp [hH, dbox_ok]
  obtain ⟨o, hs', k1, k2⟩ := hc.run
  have hm : [id].map H = [dbox d] := by rw [List.map_cons, hH]; rfl
  rw [← hm] at k1
  have hz : ∀ x ∈ [dbox d'], idbO x = 0 := fun x hx => by rw [List.mem_singleton.1 hx]; rfl
  have s1 : ∀ j, j ≠ id → (H.set id (dbox d')) j = H j := fun j hj => if_neg hj
  have s2 : (H.set id (dbox d')) id = dbox d' := if_pos rfl
  rcases k2 with ⟨rfl, rfl, rfl⟩ | ⟨hne, fz', rfl, rfl⟩
  · exact go (doLoc_old ids_df hok ha k1 hz rfl rfl) (hk _ _ (.inl ⟨rfl, rfl⟩) (.inl ⟨rfl, rfl⟩) s2 fun j _ hj => s1 j hj)
  · refine go (doLoc_new (ids := [id]) (hs := [dbox d']) ids_df hok ha k1 hz rfl rfl) (hk _ _ (.inr (.inr ⟨n, 0, fz', Nat.le_refl _, Nat.lt_succ_self _, rfl, if_pos rfl⟩)) (.inr ⟨hne, _, _, _, rfl⟩) ?_ fun j h1 h2 => ?_)
    · exact (if_neg (by omega)).trans s2
    · exact (if_neg h1).trans (s1 j h2)
/-- The slice that such a list becomes. -/
def Slc.ofL {α : Type} : List α → Slc α
  | [] => .nil
  | l => .mk l false
theorem Slc.ofL_l {α : Type} : ∀ l : List α, (Slc.ofL l).l = l
  | [] => rfl
  | _ :: _ => rfl
theorem exa_back {α : Type} {f : α → List SV} {l : List α} {lo e sz H n p} (h : Own lo e sz H n p (l.map f)) (hx : Exa p (l.map f)) : own 0 H p = some (.s ((Slc.ofL l).sv f)) := by
  have hr := h.rows
  rcases h with ⟨rfl, h⟩ | ⟨rfl, h⟩ | ⟨id, ver, fz, h1, h2, rfl, h⟩
  · have : l = [] := by simpa using h
    subst this
    exact own_s
  · rcases hx with ⟨hx, _⟩ | ⟨_, _, _, _, hx⟩ <;> cases hx
  · rcases hx with ⟨hx, _⟩ | ⟨hx, _⟩
    · cases hx
    · cases l with
      | nil => exact absurd rfl hx
      | cons a l =>
        simp only [own, hr, bnd_some]
        rw [if_neg (Nat.not_lt_zero _)]
        rfl
/-- What the decoder's list does. -/
def dLoop {α : Type} (read : Dst → α × Dst) : Nat → Dst → List α × Dst
  | 0, d => ([], d)
  | n + 1, d => if d.2 = true then ((read d).1 :: (dLoop read n (read d).2).1, (dLoop read n (read d).2).2) else ([], d)
def dList {α : Type} (read : Dst → α × Dst) (d : Dst) : List α × Dst := dLoop read (dNum d).1.toNat (dNum d).2
end Go.Vm
