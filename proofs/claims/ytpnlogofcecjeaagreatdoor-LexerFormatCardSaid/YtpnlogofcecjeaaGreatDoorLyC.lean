/- Chapter 23, plain law: formatted tokens are found again. -/
import Derived.Test.YtpnlogofcecjeaaGreatDoorLyB
set_option linter.unusedVariables false
set_option linter.unusedSimpArgs false
set_option maxRecDepth 100000
namespace Go.Vm
open Go

/-- A token's text in a source. -/
def ftk (k : Int) (t : List UInt8) : List UInt8 := if k = 3 then 39 :: (q2 t ++ [39]) else t
def ft (t : Tok) : List UInt8 := ftk t.k t.t
/-- What stands behind a token: the further ones, each behind a space. -/
def jt : List Tok → List UInt8
  | [] => []
  | t :: r => 32 :: (ft t ++ jt r)
def fm : List Tok → List UInt8
  | [] => []
  | t :: r => ft t ++ jt r
theorem jt_fm {t : Tok} {r : List Tok} : jt (t :: r) = 32 :: fm (t :: r) := rfl
theorem Cf.self : ∀ v, Cf v v
  | [] => trivial
  | b :: r => ⟨.inl rfl, Cf.self r⟩
theorem cf_map {g : UInt8 → UInt8} (h : ∀ b, Cb b (g b)) : ∀ w, Cf w (w.map g)
  | [] => trivial
  | b :: r => ⟨h b, cf_map h r⟩
theorem Cf.app : ∀ {a b v : List UInt8}, Cf a b → Cf (a ++ v) (b ++ v)
  | [], [], v, _ => Cf.self v
  | x :: a, y :: b, v, h => ⟨h.1, Cf.app h.2⟩
theorem cb_up (b : UInt8) : Cb b (mapB 97 65 b) ∧ Cb b (mapB 65 97 b) := by
  have key : ∀ c : UInt8, ((decide (mapB 97 65 c = c) || (isLet c && isLet (mapB 97 65 c) && decide (mapB 65 97 (mapB 97 65 c) = mapB 65 97 c))) && (decide (mapB 65 97 c = c) || (isLet c && isLet (mapB 65 97 c) && decide (mapB 97 65 (mapB 65 97 c) = mapB 97 65 c)))) = true := by
    refine forall_u8 ?_
    have h : ((List.range 256).all fun n => (decide (mapB 97 65 (UInt8.ofNat n) = (UInt8.ofNat n)) || (isLet (UInt8.ofNat n) && isLet (mapB 97 65 (UInt8.ofNat n)) && decide (mapB 65 97 (mapB 97 65 (UInt8.ofNat n)) = mapB 65 97 (UInt8.ofNat n)))) && (decide (mapB 65 97 (UInt8.ofNat n) = (UInt8.ofNat n)) || (isLet (UInt8.ofNat n) && isLet (mapB 65 97 (UInt8.ofNat n)) && decide (mapB 97 65 (mapB 65 97 (UInt8.ofNat n)) = mapB 97 65 (UInt8.ofNat n))))) = true := by kernel_rfl
    intro n hn
    exact List.all_eq_true.1 h n (List.mem_range.2 hn)
  have k := key b
  obtain ⟨u1, u2, u3⟩ := up_up b
  simp only [Bool.and_eq_true, Bool.or_eq_true, decide_eq_true_eq] at k
  constructor
  · rcases k.1 with h | ⟨⟨h1, h2⟩, h3⟩
    · exact .inl h.symm
    · exact .inr ⟨h1, h2, u1.symm, h3.symm⟩
  · rcases k.2 with h | ⟨⟨h1, h2⟩, h3⟩
    · exact .inl h.symm
    · exact .inr ⟨h1, h2, h3.symm, u3.symm⟩
theorem zs_head : ∀ (l : List UInt8), l.dropWhile (fun c : UInt8 => decide (c = 48)) = [] ∨ (l.dropWhile (fun c : UInt8 => decide (c = 48))).getD 0 0 ≠ 48
  | [] => .inl rfl
  | b :: r => by
    rw [zs_eq]
    by_cases h : b = 48
    · rw [if_pos h]; exact zs_head r
    · rw [if_neg h]; exact .inr h
theorem digT_digT {w : List UInt8} : digT (digT w) = digT w := by
  rcases zs_head w with h | h
  · have e : digT w = [48] := by unfold digT; rw [if_pos h]
    rw [e]; rfl
  · by_cases h2 : w.dropWhile (fun c : UInt8 => decide (c = 48)) = []
    · have e : digT w = [48] := by unfold digT; rw [if_pos h2]
      rw [e]; rfl
    · have e : digT w = w.dropWhile (fun c : UInt8 => decide (c = 48)) := by unfold digT; rw [if_neg h2]
      rw [e]
      generalize w.dropWhile (fun c : UInt8 => decide (c = 48)) = d at h h2
      cases d with
      | nil => exact absurd rfl h2
      | cons b r => exact digT_self h
theorem digT_le {w : List UInt8} (h : w ≠ []) : (digT w).length ≤ w.length := by
  unfold digT
  split
  · have := List.length_pos_iff.2 h
    simp; omega
  · exact (List.dropWhile_sublist _).length_le
theorem spn_all {p : UInt8 → Bool} : ∀ {d v : List UInt8}, d.all p = true → (v = [] ∨ p (v.getD 0 0) = false) → spn p (d ++ v) = d.length
  | [], v, _, h => by
    show spn p v = 0
    cases v with
    | nil => rfl
    | cons b v => exact spn_zero (h.resolve_left (by simp))
  | b :: d, v, h, hv => by
    rw [List.all_cons, Bool.and_eq_true] at h
    rw [List.cons_append, spn_cons, if_pos h.1, spn_all h.2 hv, List.length_cons]
/-- A token's text is found as that token. -/
def Fd (x : Rc) (v : List UInt8) : Prop := (recV (ftk x.k x.t ++ v)).k = x.k ∧ (recV (ftk x.k x.t ++ v)).t = x.t ∧ (recV (ftk x.k x.t ++ v)).n = (ftk x.k x.t).length ∧ ftk x.k x.t ≠ [] ∧ (ftk x.k x.t).length ≤ x.n
theorem fd_same {r v : List UInt8} {x : Rc} (hn : x.n ≠ 0) (hl : (r.take x.n).length = x.n) (hloc : recV (r.take x.n ++ v) = x) (e : ftk x.k x.t = r.take x.n) : Fd x v := by
  unfold Fd
  rw [e, hloc, hl]
  refine ⟨rfl, rfl, rfl, fun e2 => ?_, Nat.le_refl _⟩
  rw [e2] at hl
  exact hn hl.symm
theorem fd_word {r v : List UInt8} {x : Rc} (hn : x.n ≠ 0) (hl : (r.take x.n).length = x.n) (hloc : recV (r.take x.n ++ v) = x) (hk : x.k = 0 ∨ x.k = 1) (ht : x.t.length = x.n) (hcf : Cf (r.take x.n) x.t) : Fd x v := by
  have hk3 : ¬ x.k = 3 := by omega
  have hft : ftk x.k x.t = x.t := by unfold ftk; rw [if_neg hk3]
  have hr := rec_case (hcf.app (v := v)) (fun e => by
    have := congrArg List.length e
    rw [List.length_append, hl, List.length_nil] at this
    omega) (by rw [hloc]; exact hn) (by rw [hloc]; exact fun h => absurd hk h)
  unfold Fd
  rw [hft, hr, hloc, ht]
  refine ⟨rfl, rfl, rfl, fun e => ?_, Nat.le_refl _⟩
  rw [e] at ht
  exact hn ht.symm
theorem word_cf {b : UInt8} {r : List UInt8} (hb : isLet b = true) (hn : (wordV (b :: r)).n ≠ 0) : Cf ((b :: r).take (wordV (b :: r)).n) (wordV (b :: r)).t := by
  have f1 : isLet ((b :: r).getD 0 0) = true := hb
  cases hkw : isKw ((b :: r).take (spn isWd (b :: r))) with
  | true => rw [wordV_b f1 hkw]; exact cf_map (fun b => (cb_up b).1) _
  | false =>
    by_cases h31 : 31 < spn isWd (b :: r)
    · rw [wordV_c f1 hkw h31] at hn; exact absurd rfl hn
    · rw [wordV_d f1 hkw h31]; exact cf_map (fun b => (cb_up b).2) _
theorem dig_let {b : UInt8} (h : isDig b = true) : isLet b = false := by
  have key : ∀ c : UInt8, (!isDig c || !isLet c) = true := by
    refine forall_u8 ?_
    have h : ((List.range 256).all fun n => !isDig (UInt8.ofNat n) || !isLet (UInt8.ofNat n)) = true := by kernel_rfl
    intro n hn
    exact List.all_eq_true.1 h n (List.mem_range.2 hn)
  have := key b
  rw [h] at this
  simpa using this
theorem int_of {b : UInt8} {r : List UInt8} (hd : isDig b = true) (hn : (intV (b :: r)).n ≠ 0) : ∃ d, d ≠ [] ∧ d.all isDig = true ∧ digT d = d ∧ ¬ 9223372036854775807 < dv d ∧ d.length ≤ (intV (b :: r)).n ∧ (intV (b :: r)).k = 2 ∧ (intV (b :: r)).t = d := by
  have hpos := spn_pos (p := isDig) (r := r) hd
  have hle := @spn_le isDig (b :: r)
  have hp0 : ¬ spn isDig (b :: r) = 0 := by omega
  by_cases hov : 9223372036854775807 < dv (digT ((b :: r).take (spn isDig (b :: r))))
  · rw [intV_b hp0 hov] at hn; exact absurd rfl hn
  by_cases hw : spn isDig (b :: r) < (b :: r).length ∧ isWd ((b :: r).getD (spn isDig (b :: r)) 0) = true
  · exfalso
    have e : recV (b :: r) = intV (b :: r) := recV_dig (dig_let hd) hd
    unfold intV at hn
    rw [if_neg hp0, if_neg hov, if_pos hw] at hn
    exact hn rfl
  rw [intV_d hp0 hov hw]
  have hne : (b :: r).take (spn isDig (b :: r)) ≠ [] := fun e => by
    have := congrArg List.length e
    rw [List.length_take, List.length_nil] at this
    omega
  have hdl := digT_le hne
  rw [List.length_take, Nat.min_eq_left hle] at hdl
  exact ⟨_, digT_ne, digT_all (@all_take isDig (b :: r)), digT_digT, hov, hdl, rfl, rfl⟩
theorem int_rec {d v : List UInt8} (hne : d ≠ []) (hall : d.all isDig = true) (hdd : digT d = d) (hov : ¬ 9223372036854775807 < dv d) (hv : v = [] ∨ v.getD 0 0 = 32) : recV (d ++ v) = ⟨2, d, d.length, -1⟩ := by
  have hs : spn isDig (d ++ v) = d.length := spn_all hall (hv.imp id (fun h => by rw [h]; rfl))
  have hta : (d ++ v).take d.length = d := List.take_left
  have hdp : 0 < d.length := List.length_pos_iff.2 hne
  have hw : ¬ (spn isDig (d ++ v) < (d ++ v).length ∧ isWd ((d ++ v).getD (spn isDig (d ++ v)) 0) = true) := by
    rw [hs]
    rintro ⟨g1, g2⟩
    rcases hv with rfl | hv
    · rw [List.append_nil] at g1; omega
    · have : (d ++ v).getD d.length 0 = v.getD 0 0 := by
        rw [List.getD_eq_getElem?_getD, List.getElem?_append_right (Nat.le_refl _), Nat.sub_self, List.getD_eq_getElem?_getD]
      rw [this, hv] at g2
      cases g2
  have e1 : intV (d ++ v) = ⟨2, d, d.length, -1⟩ := by
    rw [intV_d (by omega) (by rw [hs, hta, hdd]; exact hov) hw, hs, hta, hdd]
  rw [← e1]
  cases d with
  | nil => exact absurd rfl hne
  | cons c d =>
    rw [List.all_cons, Bool.and_eq_true] at hall
    exact recV_dig (dig_let hall.1) hall.1
theorem fmt_rec {r v : List UInt8} (h0 : r ≠ []) (hn : (recV r).n ≠ 0) (hv : v = [] ∨ v.getD 0 0 = 32) : Fd (recV r) v := by
  have hle := recV_n h0
  have hfol : Fol r (recV r).n v := by
    rcases hv with h | h
    · exact .inl h
    · exact .inr (.inr (.inl (by rw [h]; rfl)))
  have hloc := rec_loc hn h0 hfol
  have htl : (r.take (recV r).n).length = (recV r).n := by rw [List.length_take]; omega
  rcases tok_fact h0 hn with ⟨hk, f1, f2, _, _⟩ | ⟨hk, f1⟩ | ⟨hk, f1, _⟩ | ⟨hk, f1⟩
  · refine fd_word hn htl hloc hk f2 ?_
    cases r with
    | nil => exact absurd rfl h0
    | cons b r =>
      have hb : isLet b = true := f1
      rw [recV_let hb] at hn ⊢
      exact word_cf hb hn
  · cases r with
    | nil => exact absurd rfl h0
    | cons b r =>
      have hd : isDig b = true := f1
      rw [recV_dig (dig_let hd) hd] at hn ⊢
      obtain ⟨d, g1, g2, g3, g4, g5, g6, g7⟩ := int_of hd hn
      have hr := int_rec g1 g2 g3 g4 hv
      have hft : ftk (intV (b :: r)).k (intV (b :: r)).t = d := by rw [g6, g7]; unfold ftk; rw [if_neg (by decide)]
      unfold Fd
      rw [hft, hr, g6, g7]
      exact ⟨rfl, rfl, rfl, g1, g5⟩
  · refine fd_same hn htl hloc ?_
    unfold ftk
    rw [if_pos hk, f1]
  · refine fd_same hn htl hloc ?_
    unfold ftk
    rw [if_neg (by omega), f1]
theorem found_stop {l : List UInt8} (h0 : l ≠ []) (hn : (recV l).n ≠ 0) (h : ∀ c, (recV l).n = 1 → l.getD 1 0 = c → c ≠ 45) : sk false l = l := by
  match l, h0 with
  | b :: l, h0 =>
  refine sk_stop (.inr ?_) ?_
  · show isBl b = false
    cases hb : isBl b with
    | false => rfl
    | true =>
      exfalso
      have hb' := hb
      unfold isBl at hb'
      simp only [Bool.or_eq_true, decide_eq_true_eq] at hb'
      have hz : symB b l.head? = none := by
        rcases hb' with ((rfl | rfl) | rfl) | rfl <;> simp [symB]
      have e : recV (b :: l) = symR (b :: l) := by
        rcases hb' with ((rfl | rfl) | rfl) | rfl <;> exact recV_sym rfl rfl (by decide)
      rw [e] at hn
      unfold symR at hn
      rw [symF_eq, hz] at hn
      exact hn rfl
  · cases hp : ([45, 45] : List UInt8).isPrefixOf (b :: l) with
    | false => rfl
    | true =>
      exfalso
      rw [pre_take, decide_eq_true_eq] at hp
      match l, hp with
      | c :: l, hp =>
        have h1 := hp.2
        injection h1 with h1 h2
        injection h2 with h2 _
        subst h1; subst h2
        have e : recV (45 :: 45 :: l) = ⟨4, [45], 1, -1⟩ := by
          rw [recV_sym rfl rfl (by decide)]
          unfold symR
          rw [symF_eq]
          have : symB 45 ((45 :: l : List UInt8).head?) = some [45] := by simp [symB]
          rw [this]
          rfl
        exact h 45 (by rw [e]) rfl rfl
theorem jt_head (r : List Tok) : jt r = [] ∨ (jt r).getD 0 0 = 32 := by
  cases r with
  | nil => exact .inl rfl
  | cons t r => exact .inr rfl
theorem fmt_scan {s : List UInt8} : ∀ (ts : List Tok) (e a : Nat), Chn s e ts → sk false (fm ts) = fm ts ∧ ∀ f, (fm ts).length ≤ f → ∃ m, scanF f (fm ts) a = .ok m ∧ m.map Tok.key = ts.map Tok.key
  | [], e, a, _ => ⟨rfl, fun f _ => ⟨[], scanF_nil, rfl⟩⟩
  | t :: ts, e, a, h => by
    obtain ⟨p, ht, h1, h2, h3, h4⟩ := h
    have hd0 : s.drop p ≠ [] := fun e => by
      have := congrArg List.length e
      rw [List.length_drop, List.length_nil] at this
      omega
    have hft : ftk (recV (s.drop p)).k (recV (s.drop p)).t = ft t := by rw [ht]; rfl
    obtain ⟨r1, r2, r3, r4, r5⟩ := fmt_rec hd0 h3 (jt_head ts)
    rw [hft] at r1 r2 r3 r4 r5
    have hf : fm (t :: ts) = ft t ++ jt ts := rfl
    have hfl : 0 < (ft t).length := List.length_pos_iff.2 r4
    have hne : ft t ++ jt ts ≠ [] := by
      intro e
      have := congrArg List.length e
      rw [List.length_append, List.length_nil] at this
      omega
    have hgd : ∀ c, (ft t).length = 1 → (ft t ++ jt ts).getD 1 0 = c → c ≠ 45 := by
      rintro c g1 rfl
      rw [List.getD_eq_getElem?_getD, List.getElem?_append_right (by omega), g1, ← List.getD_eq_getElem?_getD]
      rcases jt_head ts with g | g
      · rw [g]; decide
      · rw [show (1 : Nat) - 1 = 0 from rfl, g]; decide
    refine ⟨by rw [hf]; exact found_stop hne (by rw [r3]; omega) (by rw [r3]; exact hgd), fun f hlen => ?_⟩
    rw [hf] at hlen ⊢
    rw [List.length_append] at hlen
    obtain ⟨f, rfl⟩ : ∃ f', f = f' + 1 := ⟨f - 1, by omega⟩
    rw [scanF_step hne (by rw [r3]; omega), r1, r2, r3, List.drop_left]
    have hts : sk false (jt ts) = fm ts ∧ (fm ts).length ≤ f := by
      cases ts with
      | nil => exact ⟨rfl, Nat.zero_le _⟩
      | cons u us =>
        rw [jt_fm] at hlen ⊢
        rw [List.length_cons] at hlen
        exact ⟨by rw [sk_f, if_pos (by decide)]; exact (fmt_scan (u :: us) _ a h4).1, by omega⟩
    rw [hts.1]
    obtain ⟨m, hm, hk⟩ := (fmt_scan ts _ (a + (ft t).length + skN (jt ts)) h4).2 f hts.2
    rw [hm]
    refine ⟨⟨(recV (s.drop p)).k, a, (recV (s.drop p)).t⟩ :: m, rfl, ?_⟩
    rw [List.map_cons, List.map_cons, hk, ht]
    rfl
theorem jt_len {s : List UInt8} : ∀ (ts : List Tok) (e : Nat), Chn s e ts → e ≤ s.length → (jt ts).length ≤ 2 * (s.length - e) ∧ ∀ t ∈ ts, t.t.length ≤ s.length ∧ (ft t).length ≤ s.length
  | [], e, _, _ => ⟨Nat.zero_le _, fun t h => by cases h⟩
  | t :: ts, e, h, he => by
    obtain ⟨p, ht, h1, h2, h3, h4⟩ := h
    have hd0 : s.drop p ≠ [] := fun e => by
      have := congrArg List.length e
      rw [List.length_drop, List.length_nil] at this
      omega
    have hft : ftk (recV (s.drop p)).k (recV (s.drop p)).t = ft t := by rw [ht]; rfl
    obtain ⟨_, _, _, _, r5⟩ := fmt_rec (v := []) hd0 h3 (.inl rfl)
    rw [hft] at r5
    have hle := recV_n hd0
    rw [List.length_drop] at hle
    obtain ⟨g1, g2⟩ := jt_len ts _ h4 (by omega)
    have hj : (jt (t :: ts)).length = (ft t).length + (jt ts).length + 1 := by
      show (32 :: (ft t ++ jt ts)).length = _
      rw [List.length_cons, List.length_append]
    refine ⟨by rw [hj]; omega, fun u hu => ?_⟩
    rcases List.mem_cons.1 hu with rfl | hu
    · refine ⟨?_, by omega⟩
      have : u.t.length ≤ (ft u).length := by
        unfold ft ftk
        split
        · have := q2_ge u.t
          simp only [List.length_cons, List.length_append, List.length_nil]
          omega
        · exact Nat.le_refl _
      omega
    · exact g2 u hu
theorem fm_len {s : List UInt8} {ts : List Tok} (h : Chn s 0 ts) : (fm ts).length ≤ 2 * s.length ∧ ∀ t ∈ ts, t.t.length ≤ s.length ∧ (ft t).length ≤ s.length := by
  obtain ⟨g1, g2⟩ := jt_len ts 0 h (Nat.zero_le _)
  refine ⟨?_, g2⟩
  cases ts with
  | nil => exact Nat.zero_le _
  | cons t ts =>
    rw [jt_fm, List.length_cons] at g1
    omega
theorem fmt_law {s : List UInt8} {ts : List Tok} (h : Chn s 0 ts) : ∃ m, scanV (fm ts) = .ok m ∧ m.map Tok.key = ts.map Tok.key := by
  obtain ⟨h1, h2⟩ := fmt_scan ts 0 (skN (fm ts)) h
  obtain ⟨m, hm, hk⟩ := h2 (fm ts).length (Nat.le_refl _)
  refine ⟨m, ?_, hk⟩
  unfold scanV
  rw [h1]; exact hm
end Go.Vm
