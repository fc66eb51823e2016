/-  -/
import Derived.Test.YtpnfkipfjanmkaaGreatDoorHA1
import Derived.Lib.TrimByte
import Derived.Lib.IndexAny
import Derived.Lib.IndexMore
import Derived.Lib.ItoaNum
import Derived.Lib.Atoi
set_option linter.unusedVariables false
set_option linter.unusedSimpArgs false
/-! Plain: the parts of the numeral that a text begins with, and what it says. -/
namespace Go.Proofs.YtpnfkipfjanmkaaGreatDoor.Flt
open Go.Lib

structure IsNum (sg W dot B ex : List UInt8) : Prop where
  sgn : sg = [] ∨ ∃ c : UInt8, sg = [c] ∧ (c = 43 ∨ c = 45)
  dW : Digs W
  dB : Digs B
  hdot : (dot = [] ∧ B = []) ∨ dot = [46]
  pos : 0 < W.length + B.length
  hex : ex = [] ∨ ∃ (e : UInt8) (es K : List UInt8), ex = e :: (es ++ K) ∧ (e = 101 ∨ e = 69) ∧ (es = [] ∨ ∃ c : UInt8, es = [c] ∧ (c = 43 ∨ c = 45)) ∧ Digs K ∧ 0 < K.length

/-- the figures from the first that isn't 0 -/
def figs (W B : List UInt8) : List UInt8 := trimLeftB (W ++ B) 48
/-- an exponent's value, up to a bound -/
def exV : List UInt8 → Int
  | [] => 0
  | _ :: r => if r[0]? = some 45 then -(min (dval (r.drop (signL r))) 1000000000 : Nat) else (min (dval (r.drop (signL r))) 1000000000 : Nat)
def clamp (a : Int) : Int := min (max a (-400)) 400
/-- where the point stands, from the first figure on -/
def pointV (W B ex : List UInt8) : Int := ((figs W B).length : Int) - B.length + exV ex
def magV (W B ex : List UInt8) : Nat := rdec (trimRightB (figs W B) 48) (clamp (pointV W B ex))
/-- the number's bits -/
def numV (sg W B ex : List UInt8) : Nat := (if sg = [45] then 9223372036854775808 else 0) + magV W B ex

theorem take_runL : ∀ l : List UInt8, l.take (runL l) = l.takeWhile isD
  | [] => rfl
  | a :: l => by
    unfold runL
    rw [List.takeWhile_cons]
    by_cases ha : isD a = true
    · rw [if_pos ha, List.length_cons, List.take_succ_cons]
      have := take_runL l
      unfold runL at this
      rw [this]
    · rw [if_neg ha]; rfl

def numDot (l : List UInt8) (b : Nat) : List UInt8 := if l[b]? = some 46 then [46] else []
def numB (l : List UInt8) (b : Nat) : List UInt8 := if l[b]? = some 46 then (l.drop (b + 1)).takeWhile isD else []
def exAt (l : List UInt8) (b : Nat) : Nat := if l[b]? = some 46 then b + 1 + dotL l b else b
def exOf (l : List UInt8) (c : Nat) : List UInt8 := (l.drop c).take (expL l c - c)

theorem numB_len (l : List UInt8) (b : Nat) : (numB l b).length = dotL l b := by
  unfold numB dotL; split <;> rfl
theorem numB_digs (l : List UInt8) (b : Nat) : Digs (numB l b) := by
  unfold numB; split
  · exact digs_takeWhile _
  · intro c hc; cases hc

theorem take_sign (l : List UInt8) : l.take (signL l) = [] ∨ ∃ c : UInt8, l.take (signL l) = [c] ∧ (c = 43 ∨ c = 45) := by
  cases l with
  | nil => left; rfl
  | cons c l =>
    by_cases h : c.toNat = 43 ∨ c.toNat = 45
    · right
      have : signL (c :: l) = 1 := if_pos h
      rw [this]
      refine ⟨c, rfl, ?_⟩
      rcases h with h | h
      · exact .inl (UInt8.toNat_inj.1 h)
      · exact .inr (UInt8.toNat_inj.1 h)
    · left
      have : signL (c :: l) = 0 := if_neg h
      rw [this]; rfl

theorem exOf_cases (l : List UInt8) (c : Nat) : (exOf l c = [] ∧ expL l c = c) ∨ ∃ (e : UInt8) (es K : List UInt8), exOf l c = e :: (es ++ K) ∧ (e = 101 ∨ e = 69) ∧ l[c]? = some e ∧
    es = (l.drop (c + 1)).take (signL (l.drop (c + 1))) ∧ K = (l.drop (c + 1 + signL (l.drop (c + 1)))).takeWhile isD ∧ 0 < K.length ∧ expL l c = c + 1 + es.length + K.length := by
  obtain ⟨x, hx⟩ : ∃ x, expL l c = x := ⟨_, rfl⟩
  have hx' := hx
  unfold expL at hx'
  unfold exOf
  by_cases h1 : l[c]? = some 101 ∨ l[c]? = some 69
  · rw [if_pos h1] at hx'
    by_cases h2 : 0 < runL (l.drop (c + 1 + signL (l.drop (c + 1))))
    · rw [if_pos h2] at hx'
      right
      obtain ⟨e, he, he2⟩ : ∃ e : UInt8, (e = 101 ∨ e = 69) ∧ l[c]? = some e := by
        rcases h1 with h | h
        · exact ⟨101, .inl rfl, h⟩
        · exact ⟨69, .inr rfl, h⟩
      have hc : c < l.length := by
        rcases Nat.lt_or_ge c l.length with h3 | h3
        · exact h3
        · rw [List.getElem?_eq_none h3] at he2; cases he2
      have hd : l.drop c = e :: l.drop (c + 1) := by
        rw [List.drop_eq_getElem_cons hc]
        rw [List.getElem?_eq_getElem hc] at he2
        cases he2; rfl
      have hs := (signL_le (l.drop (c + 1))).2
      obtain ⟨n, hn⟩ : ∃ n, signL (l.drop (c + 1)) = n := ⟨_, rfl⟩
      rw [hn] at hx' hs ⊢
      have hlen : ((l.drop (c + 1)).take n).length = n := by rw [List.length_take]; omega
      refine ⟨e, (l.drop (c + 1)).take n, (l.drop (c + 1 + n)).takeWhile isD, ?_, he, he2, rfl, rfl, ?_, ?_⟩
      · rw [hx, hd, ← hx', show c + 1 + n + runL (l.drop (c + 1 + n)) - c = (n + runL (l.drop (c + 1 + n))) + 1 from by omega, List.take_succ_cons, List.take_add, List.drop_drop]
        congr 2
        exact take_runL _
      · rw [hn] at h2; exact h2
      · rw [hlen, hx, ← hx']; rfl
    · rw [if_neg h2] at hx'
      left
      rw [hx, ← hx', Nat.sub_self, List.take_zero]
      exact ⟨rfl, rfl⟩
  · rw [if_neg h1] at hx'
    left
    rw [hx, ← hx', Nat.sub_self, List.take_zero]
    exact ⟨rfl, rfl⟩

/-- the parts of the numeral ahead -/
theorem numL_parts (l : List UInt8) (a : Nat) (W : List UInt8) (b : Nat) (ha : signL l = a) (hW : (l.drop a).takeWhile isD = W) (hb : a + W.length = b) (h : numL l ≠ 0) :
    IsNum (l.take a) W (numDot l b) (numB l b) (exOf l (exAt l b)) ∧
    l.take (numL l) = l.take a ++ (W ++ (numDot l b ++ (numB l b ++ exOf l (exAt l b)))) ∧ numL l = expL l (exAt l b) ∧ exAt l b ≤ expL l (exAt l b) := by
  have hwh : runL (l.drop a) = W.length := by rw [← hW]; rfl
  have hnum : numL l = numAt l a W.length := by unfold numL; rw [ha, hwh]
  unfold numAt at hnum
  rw [hb] at hnum
  have hz : ¬ W.length + dotL l b = 0 := by
    intro hz
    rw [if_pos hz] at hnum
    exact h hnum
  rw [if_neg hz] at hnum
  have hnum : numL l = expL l (exAt l b) := hnum
  have hex := exOf_cases l (exAt l b)
  have hle : exAt l b ≤ expL l (exAt l b) := by
    rcases hex with ⟨_, h1⟩ | ⟨e, es, K, _, _, _, _, _, _, h1⟩ <;> omega
  refine ⟨⟨?_, ?_, numB_digs _ _, ?_, ?_, ?_⟩, ?_, hnum, hle⟩
  · rw [← ha]; exact take_sign l
  · rw [← hW]; exact digs_takeWhile _
  · unfold numDot numB
    by_cases hd : l[b]? = some 46
    · rw [if_pos hd]; exact .inr rfl
    · rw [if_neg hd, if_neg hd]; exact .inl ⟨rfl, rfl⟩
  · rw [numB_len]; omega
  · rcases hex with ⟨h1, _⟩ | ⟨e, es, K, h1, h2, _, h4, h5, h6, _⟩
    · exact .inl h1
    · refine .inr ⟨e, es, K, h1, h2, ?_, ?_, h6⟩
      · rw [h4]; exact take_sign _
      · rw [h5]; exact digs_takeWhile _
  · rw [hnum]
    have h1 : l.take (exAt l b) = l.take a ++ (W ++ (numDot l b ++ numB l b)) := by
      have hab : l.take b = l.take a ++ W := by
        rw [← hb, List.take_add, ← hwh, take_runL, hW]
      unfold exAt numDot numB
      by_cases hd : l[b]? = some 46
      · rw [if_pos hd, if_pos hd, if_pos hd]
        have hbl : b < l.length := by
          rcases Nat.lt_or_ge b l.length with h3 | h3
          · exact h3
          · rw [List.getElem?_eq_none h3] at hd; cases hd
        have hdl : dotL l b = runL (l.drop (b + 1)) := if_pos hd
        have hg : l[b] = 46 := by rw [List.getElem?_eq_getElem hbl] at hd; exact Option.some.inj hd
        rw [hdl, List.take_add, take_runL, List.take_succ_eq_append_getElem hbl, hg, hab]
        simp
      · rw [if_neg hd, if_neg hd, if_neg hd, hab]
        simp
    have h2 : expL l (exAt l b) = exAt l b + (expL l (exAt l b) - exAt l b) := by omega
    rw [h2, List.take_add, h1]
    have h3 : exOf l (exAt l b) = (l.drop (exAt l b)).take (expL l (exAt l b) - exAt l b) := rfl
    rw [← h3]
    simp only [List.append_assoc]
end Go.Proofs.YtpnfkipfjanmkaaGreatDoor.Flt

/-! Plain: what strings' and strconv's functions make of a numeral's parts. -/
namespace Go.Proofs.YtpnfkipfjanmkaaGreatDoor.Flt
open Go.Lib

theorem digs_ne {l : List UInt8} (h : Digs l) {c : UInt8} (hc : c ∈ l) (d : UInt8) (hd : d.toNat < 48 ∨ 57 < d.toNat) : c ≠ d := by
  intro e; subst e
  have := h c hc; omega
theorem digs_not {l : List UInt8} (h : Digs l) {j : Nat} {c : UInt8} (hc : l[j]? = some c) (d : UInt8) (hd : d.toNat < 48 ∨ 57 < d.toNat) : c ≠ d := digs_ne h (List.mem_of_getElem? hc) d hd

section
variable {sg W dot B ex : List UInt8} (h : IsNum sg W dot B ex)
include h

theorem IsNum.dots : dot = [] ∨ dot = [46] := by
  rcases h.hdot with ⟨h1, _⟩ | h1
  · exact .inl h1
  · exact .inr h1
theorem IsNum.sgl : sg.length ≤ 1 := by
  rcases h.sgn with h1 | ⟨c, h1, _⟩ <;> subst h1 <;> simp
theorem IsNum.dotl : dot.length ≤ 1 := by
  rcases h.dots with h1 | h1 <;> subst h1 <;> simp

/-- what stands behind the sign begins with a digit or a point -/
theorem IsNum.head {r : List UInt8} : ∃ c t, W ++ (dot ++ (B ++ r)) = c :: t ∧ ((48 ≤ c.toNat ∧ c.toNat ≤ 57) ∨ c = 46) := by
  cases hW : W with
  | cons c w => exact ⟨c, _, rfl, .inl (h.dW c (by rw [hW]; simp))⟩
  | nil =>
    rcases h.hdot with ⟨_, h1⟩ | h1
    · have := h.pos; rw [hW, h1] at this; simp at this
    · exact ⟨46, _, by rw [h1]; rfl, .inr rfl⟩
theorem IsNum.signL {r : List UInt8} : signL (sg ++ (W ++ (dot ++ (B ++ r)))) = sg.length := by
  obtain ⟨c, t, hc, hd⟩ := h.head (r := r)
  rw [hc]
  rcases h.sgn with h1 | ⟨d, h1, h2⟩
  · subst h1
    refine if_neg ?_
    rcases hd with hd | hd
    · omega
    · subst hd; decide
  · subst h1
    refine if_pos ?_
    rcases h2 with h2 | h2 <;> subst h2
    · left; decide
    · right; decide

theorem IsNum.noE {j : Nat} {c : UInt8} (hc : (W ++ (dot ++ B))[j]? = some c) : [(101 : UInt8), 69].contains c = false := by
  have hm := List.mem_of_getElem? hc
  simp only [List.mem_append] at hm
  have h1 : c ≠ 101 ∧ c ≠ 69 := by
    rcases hm with hm | hm | hm
    · exact ⟨digs_ne h.dW hm _ (by decide), digs_ne h.dW hm _ (by decide)⟩
    · rcases h.dots with h2 | h2
      · subst h2; cases hm
      · subst h2; simp at hm; subst hm; decide
    · exact ⟨digs_ne h.dB hm _ (by decide), digs_ne h.dB hm _ (by decide)⟩
  simp [h1.1, h1.2]

theorem IsNum.ascii {j : Nat} {c : UInt8} (hc : (W ++ (dot ++ (B ++ ex)))[j]? = some c) : c.toNat < 128 := by
  have hm := List.mem_of_getElem? hc
  simp only [List.mem_append] at hm
  rcases hm with hm | hm | hm | hm
  · have := h.dW c hm; omega
  · rcases h.dots with h2 | h2
    · subst h2; cases hm
    · subst h2; simp at hm; subst hm; decide
  · have := h.dB c hm; omega
  · rcases h.hex with h1 | ⟨e, es, K, h1, h2, h3, h4, _⟩
    · subst h1; cases hm
    · subst h1
      simp only [List.mem_cons, List.mem_append] at hm
      rcases hm with hm | hm | hm
      · subst hm; rcases h2 with h2 | h2 <;> subst h2 <;> decide
      · rcases h3 with h3 | ⟨d, h3, h5⟩
        · subst h3; cases hm
        · subst h3; simp at hm; subst hm; rcases h5 with h5 | h5 <;> subst h5 <;> decide
      · have := h4 c hm; omega

theorem IsNum.indexE : indexAny (W ++ (dot ++ (B ++ ex))) [101, 69] = if ex = [] then -1 else ((W ++ (dot ++ B)).length : Int) := by
  have e1 : W ++ (dot ++ (B ++ ex)) = (W ++ (dot ++ B)) ++ ex := by simp only [List.append_assoc]
  rw [e1]
  have hno : ∀ j c, j < (W ++ (dot ++ B)).length → ((W ++ (dot ++ B)) ++ ex)[j]? = some c → [(101 : UInt8), 69].contains c = false := by
    intro j c hj hc
    rw [List.getElem?_append_left hj] at hc
    exact h.noE hc
  rcases h.hex with h1 | ⟨e, es, K, h1, h2, _⟩
  · subst h1
    rw [if_pos rfl, List.append_nil]
    exact indexAny_none fun j c hj hc => h.noE hc
  · rw [if_neg (by rw [h1]; simp)]
    refine indexAny_hit (x := e) (fun j c hj hc => hno j c hj hc) ?_ ?_
    · rw [List.getElem?_append_right (Nat.le_refl _), Nat.sub_self, h1]; rfl
    · rcases h2 with h2 | h2 <;> subst h2 <;> decide

theorem IsNum.cutDot : cut (W ++ (dot ++ B)) [46] = (W, B, !dot.isEmpty) := by
  have hocc : ∀ j, j < W.length → occAt (W ++ (dot ++ B)) [46] j = false := by
    intro j hj
    cases ho : occAt (W ++ (dot ++ B)) [46] j
    · rfl
    · exfalso
      have := occAt_head (c := 46) (t := []) rfl ho
      rw [List.getElem?_append_left hj] at this
      exact digs_not h.dW this 46 (by decide) rfl
  rcases h.hdot with ⟨h1, h2⟩ | h1
  · subst h1 h2
    have hi : index W [46] = -1 := by
      refine index_none fun j hj => ?_
      cases ho : occAt W [46] j
      · rfl
      · exfalso
        have := occAt_head (c := 46) (t := []) rfl ho
        exact digs_not h.dW this 46 (by decide) rfl
    unfold cut
    simp only [List.append_nil]
    rw [hi, if_neg (by decide)]
    rfl
  · subst h1
    have hi : index (W ++ ([46] ++ B)) [46] = (W.length : Int) := by
      refine index_first (by simp) ?_ hocc
      unfold occAt
      rw [List.drop_left]
      simp
    unfold cut
    rw [hi, if_pos (by omega)]
    refine Prod.ext ?_ (Prod.ext ?_ rfl)
    · show (W ++ ([46] ++ B)).take (W.length : Int).toNat = W
      rw [Int.toNat_natCast, List.take_left]
    · show (W ++ ([46] ++ B)).drop ((W.length : Int).toNat + 1) = B
      rw [Int.toNat_natCast, ← List.drop_drop, List.drop_left]; rfl
end

theorem decFrom_digs : ∀ {l : List UInt8} (acc : Nat), Digs l → decFrom acc l = some (acc * 10 ^ l.length + dval l)
  | [], acc, _ => by simp [decFrom, dval]
  | c :: l, acc, h => by
    have hc := h c (by simp)
    have h1 := dval_append [c] l
    have h2 : dval [c] = dv c := by unfold dval; simp
    rw [show [c] ++ l = c :: l from rfl, h2] at h1
    have hd : digitVal c = some (dv c) := if_pos hc
    rw [decFrom, hd]
    show decFrom (acc * 10 + dv c) l = _
    rw [decFrom_digs _ (fun c hc => h c (by simp [hc])), h1, List.length_cons, Nat.pow_succ, Nat.add_mul]
    congr 1
    rw [Nat.mul_assoc, Nat.mul_comm 10, Nat.add_assoc]
theorem atoi_digs {l : List UInt8} (h : Digs l) (h0 : 0 < l.length) : atoi l = some ((dval l : Nat) : Int) := by
  cases l with
  | nil => simp at h0
  | cons c l =>
    have hc := h c (by simp)
    have h1 : (c == 45) = false := by
      rw [beq_eq_false_iff_ne]; intro e; subst e; revert hc; decide
    have h2 : (c == 43) = false := by
      rw [beq_eq_false_iff_ne]; intro e; subst e; revert hc; decide
    simp only [atoi, h1, h2, Bool.false_eq_true, if_false]
    unfold decNat
    rw [if_neg (by simp), decFrom_digs 0 h]
    simp

theorem digs_trimLeftB {l : List UInt8} (h : Digs l) : Digs (trimLeftB l 48) := fun c hc => h c ((List.dropWhile_suffix _).subset hc)
theorem digs_trimRightB {l : List UInt8} (h : Digs l) : Digs (trimRightB l 48) := fun c hc => by
  unfold trimRightB at hc
  rw [List.mem_reverse] at hc
  have := (List.dropWhile_suffix _).subset hc
  rw [List.mem_reverse] at this
  exact h c this
theorem trimLeftB_first {l : List UInt8} {c : UInt8} (h : (trimLeftB l 48)[0]? = some c) : c.toNat ≠ 48 := by
  unfold trimLeftB at h
  induction l with
  | nil => simp at h
  | cons a l ih =>
    rw [List.dropWhile_cons] at h
    by_cases ha : (a == 48) = true
    · rw [if_pos ha] at h; exact ih h
    · rw [if_neg ha] at h
      cases h
      intro e
      apply ha
      rw [beq_iff_eq]; exact UInt8.toNat_inj.1 e
theorem trimRightB_last {l : List UInt8} {c : UInt8} (h : (trimRightB l 48)[(trimRightB l 48).length - 1]? = some c) : c.toNat ≠ 48 := by
  have e : trimRightB l 48 = (trimLeftB l.reverse 48).reverse := rfl
  rw [e] at h
  rw [List.length_reverse, List.getElem?_reverse'] at h
  · exact trimLeftB_first h
  · cases hl : trimLeftB l.reverse 48 with
    | nil => rw [hl] at h; simp at h
    | cons a t => simp
theorem trimRightB_first {l : List UInt8} {c : UInt8} (hl : ∀ d, l[0]? = some d → d.toNat ≠ 48) (h : (trimRightB l 48)[0]? = some c) : c.toNat ≠ 48 := by
  have hp : trimRightB l 48 <+: l := by
    unfold trimRightB
    have := List.dropWhile_suffix (· == (48 : UInt8)) (l := l.reverse)
    rw [← List.reverse_prefix, List.reverse_reverse] at this
    exact this
  obtain ⟨t, ht⟩ := hp
  refine hl c ?_
  rw [← ht]
  cases hr : trimRightB l 48 with
  | nil => rw [hr] at h; simp at h
  | cons a r => rw [hr] at h; exact h
theorem trimB_len (l : List UInt8) : (trimLeftB l 48).length ≤ l.length ∧ (trimRightB l 48).length ≤ l.length := by
  constructor
  · exact (List.dropWhile_suffix _).length_le
  · have := (List.dropWhile_suffix (· == (48 : UInt8)) (l := l.reverse)).length_le
    unfold trimRightB
    rw [List.length_reverse]
    rw [List.length_reverse] at this
    exact this

theorem decDigits_digs (u : Nat) : Digs (decDigits u) := by
  induction u using Nat.strongRecOn with
  | _ u ih =>
    rw [decDigits]
    have hc : ∀ d, d < 10 → 48 ≤ (UInt8.ofNat (48 + d)).toNat ∧ (UInt8.ofNat (48 + d)).toNat ≤ 57 := by
      intro d hd
      have : (UInt8.ofNat (48 + d)).toNat = (48 + d) % 256 := UInt8.toNat_ofNat'
      rw [this]; omega
    by_cases h : u < 10
    · rw [dif_pos h]
      intro c hcm
      rw [List.mem_singleton.1 hcm]
      exact hc u h
    · rw [dif_neg h]
      intro c hcm
      rw [List.mem_append] at hcm
      rcases hcm with hcm | hcm
      · exact ih (u / 10) (by omega) c hcm
      · rw [List.mem_singleton.1 hcm]
        exact hc (u % 10) (Nat.mod_lt u (by omega))
theorem dval_decDigits (u : Nat) : dval (decDigits u) = u := by
  induction u using Nat.strongRecOn with
  | _ u ih =>
    rw [decDigits]
    have hc : ∀ d, d < 10 → dv (UInt8.ofNat (48 + d)) = d := by
      intro d hd
      unfold dv
      have : (UInt8.ofNat (48 + d)).toNat = (48 + d) % 256 := UInt8.toNat_ofNat'
      rw [this]; omega
    by_cases h : u < 10
    · rw [dif_pos h]
      have : dval [UInt8.ofNat (48 + u)] = 0 * 10 + dv (UInt8.ofNat (48 + u)) := rfl
      rw [this, hc u h]; omega
    · rw [dif_neg h, dval_snoc, ih (u / 10) (by omega), hc (u % 10) (Nat.mod_lt u (by omega))]
      omega
theorem decDigits_len {u : Nat} (h : u < 10000) : 0 < (decDigits u).length ∧ (decDigits u).length ≤ 4 := by
  rw [decDigits_length]
  refine ⟨nDigits_pos u, ?_⟩
  rcases Nat.lt_or_ge 4 (nDigits u) with h1 | h1
  · exfalso
    have : 10 ^ (nDigits u - 1) ≤ u ∨ u < 10 := by
      by_cases h2 : u < 10
      · exact .inr h2
      · left
        have := decDigits_length u
        rcases Nat.lt_or_ge u (10 ^ (nDigits u - 1)) with h3 | h3
        · exfalso
          have h4 := dval_lt (decDigits_digs (u))
          have h6 : ∀ k v, v < 10 ^ (k + 1) → nDigits v ≤ k + 1 := by
            intro k
            induction k with
            | zero => intro v hv; rw [nDigits_small (by omega)]; omega
            | succ k ih =>
              intro v hv
              by_cases hv10 : v < 10
              · rw [nDigits_small hv10]; omega
              · rw [nDigits_big hv10]
                have := ih (v / 10) (by rw [Nat.pow_succ] at hv; omega)
                omega
          have h7 := h6 (nDigits u - 2) u (by rw [show nDigits u - 2 + 1 = nDigits u - 1 from by omega]; exact h3)
          omega
        · exact h3
    rcases this with h2 | h2
    · have h3 : 10 ^ 4 ≤ 10 ^ (nDigits u - 1) := Nat.pow_le_pow_right (by omega) (by omega)
      omega
    · rw [nDigits_small h2] at h1; omega
  · exact h1

theorem dval_ge {F : List UInt8} (hF : Digs F) (hF1 : 0 < F.length) (hF0 : ∀ c, F[0]? = some c → c.toNat ≠ 48) : 10 ^ (F.length - 1) ≤ dval F := by
  cases F with
  | nil => simp at hF1
  | cons c l =>
    have h1 := dval_append [c] l
    have h2 : dval [c] = dv c := by unfold dval; simp
    have h3 := hF0 c rfl
    have h4 := hF c (by simp)
    rw [show [c] ++ l = c :: l from rfl, h2] at h1
    rw [h1, List.length_cons, Nat.add_sub_cancel]
    have h5 : 1 ≤ dv c := by unfold dv; omega
    have := Nat.mul_le_mul_right (10 ^ l.length) h5
    omega
/-- what the code makes of an exponent's digits -/
def powN (K : List UInt8) : Nat := if (trimLeftB K 48).length < 9 then dval K else 1073741824
theorem dval_trim (K : List UInt8) : dval (trimLeftB K 48) = dval K := by
  unfold trimLeftB
  induction K with
  | nil => rfl
  | cons c K ih =>
    rw [List.dropWhile_cons]
    by_cases hc : (c == 48) = true
    · rw [if_pos hc, ih]
      have h1 := dval_append [c] K
      have h2 : c = 48 := by simpa using hc
      subst h2
      have h3 : dval [48] = 0 := by decide
      rw [show [(48 : UInt8)] ++ K = 48 :: K from rfl, h3] at h1
      rw [h1]; omega
    · rw [if_neg hc]
theorem powN_big {K : List UInt8} (hK : Digs K) (h : ¬ (trimLeftB K 48).length < 9) : 100000000 ≤ dval K := by
  rw [← dval_trim]
  have h1 := dval_ge (digs_trimLeftB hK) (by omega) (fun c hc => trimLeftB_first hc)
  exact Nat.le_trans (show 10 ^ 8 ≤ _ from Nat.pow_le_pow_right (by omega) (by omega)) h1
theorem powN_small {K : List UInt8} (hK : Digs K) (h : (trimLeftB K 48).length < 9) : dval K < 100000000 := by
  rw [← dval_trim]
  have h1 := dval_lt (digs_trimLeftB hK)
  have h2 : 10 ^ (trimLeftB K 48).length ≤ 10 ^ 8 := Nat.pow_le_pow_right (by omega) (by omega)
  omega
theorem clamp_pow {K : List UInt8} (hK : Digs K) (x : Int) (h1 : -1000000 ≤ x) (h2 : x ≤ 1000000) :
    clamp (x + powN K) = clamp (x + (min (dval K) 1000000000 : Nat)) ∧ clamp (x - powN K) = clamp (x - (min (dval K) 1000000000 : Nat)) := by
  unfold powN clamp
  by_cases h : (trimLeftB K 48).length < 9
  · have := powN_small hK h
    rw [if_pos h]; omega
  · have := powN_big hK h
    rw [if_neg h]; omega
end Go.Proofs.YtpnfkipfjanmkaaGreatDoor.Flt
