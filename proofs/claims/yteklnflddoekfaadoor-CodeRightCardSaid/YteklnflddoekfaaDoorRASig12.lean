/- The walks of some functions: what they compute. -/
import Derived.Test.YteklnflddoekfaaDoorRASig3
import Derived.Test.YteklnflddoekfaaDoorAbsUnroll
namespace Go.Abs.Sig
open Go.RowKit Go.Abs
set_option linter.unusedSimpArgs false
set_option linter.unusedVariables false
set_option maxRecDepth 8000
attribute [local irreducible] StCall StYield WPc Weak IterOf Call2

def textL : List UInt8 := [49, 48, 58, 49, 48, 83, 111, 111, 84, 76, 76, 44, 49, 49, 67, 84, 83, 76, 83, 44, 50, 48, 83, 76, 44, 50, 49, 67, 76, 44, 51, 48, 83, 115, 108, 115, 44, 51, 49, 67, 115, 108, 115, 44, 52, 48, 67, 83, 83, 98, 44, 52, 49, 83, 83, 44, 53, 48, 66, 115, 83, 115, 115, 44, 53, 49, 66, 44, 54, 48, 83, 83, 44, 54, 49, 83, 59, 50, 48, 58, 49, 48, 67, 83, 44, 49, 49, 83, 76, 44, 50, 48, 66, 98, 44, 50, 49, 66, 98, 44, 52, 48, 66, 115, 83, 115, 115, 44, 52, 49, 66, 59, 52, 48, 58, 49, 48, 67, 115, 83, 83, 98, 98, 98, 98, 98, 84, 44, 49, 49, 83, 44, 50, 48, 67, 115, 83, 98, 98, 44, 50, 49, 83, 59, 53, 48, 58, 49, 48, 67, 115, 83, 98, 98, 98, 98, 98, 84, 44, 49, 49, 83, 83, 108, 108, 44, 50, 48, 67, 115, 83, 83, 83, 98, 84, 44, 50, 49, 83, 44, 51, 48, 67, 115, 83, 98, 44, 51, 49, 83, 108, 44, 52, 48, 67, 115, 83, 98, 98, 98, 44, 52, 49, 83, 108, 44, 53, 48, 67, 115, 83, 83, 83, 84, 44, 53, 49, 83, 59, 54, 48, 58, 49, 48, 67, 108, 115, 98, 44, 49, 49, 83, 44, 50, 48, 67, 115, 83, 83, 98, 98, 98, 98, 84, 44, 50, 49, 83, 83, 44, 51, 48, 67, 83, 98, 44, 51, 49, 83, 83, 44, 52, 48, 67, 115, 83, 83, 98, 98, 44, 53, 48, 83, 115, 83, 83, 83, 44, 54, 48, 83, 83, 113, 98, 83, 83, 44, 55, 48, 67, 115, 83, 98, 44, 55, 49, 83, 113, 98, 83, 83, 108, 44, 55, 50, 83, 83, 44, 56, 48, 66, 113, 98, 44, 57, 48, 67, 113, 98, 44, 49, 48, 48, 67, 98, 44, 49, 49, 48, 67, 98, 44, 49, 49, 49, 83, 44, 49, 50, 48, 66, 113, 98, 98, 59, 56, 53, 58, 49, 48, 67, 98, 44, 49, 49, 83, 59, 57, 48, 58, 49, 48, 67, 44, 49, 49, 83, 44, 50, 48, 67, 44, 50, 49, 83, 44, 51, 48, 67, 44, 51, 49, 83, 59]

abbrev RRow := Int × Int × Int × List UInt8
def isDig (b : UInt8) : Bool := decide ((b.toNat : Int) ≥ 48) && decide ((b.toNat : Int) ≤ 57)
def isEnd (b : UInt8) : Bool := !(decide ((b.toNat : Int) ≠ 44) && decide ((b.toNat : Int) ≠ 59))

def digs : List UInt8 → Int → Option (Int × List UInt8)
  | [], _ => none
  | b :: r, n => if isDig b then digs r (IntKind.i64.wrap (IntKind.i64.wrap (10 * n) + IntKind.i64.wrap (IntKind.u8.wrap ((b.toNat : Int) - 48)))) else some (n, b :: r)
def sgs : List UInt8 → List UInt8 → Option (List UInt8 × List UInt8)
  | [], _ => none
  | b :: r, acc => if isEnd b then some (acc, r) else sgs r (acc ++ [b])
def rrun : Nat → List UInt8 → Int → List RRow → Option (List RRow)
  | _, [], _, out => some out
  | 0, _, _, _ => none
  | f + 1, t, c, out => match digs t 0 with
    | some (n, b :: r) => if decide ((b.toNat : Int) = 58) then rrun f r n out else match sgs r [] with
      | some (sg, r') => rrun f r' c (out ++ [(c, n, (b.toNat : Int), sg)])
      | none => none
    | _ => none
def rtab : List RRow := (rrun 400 textL 0 []).getD []
theorem rtab_run : rrun 400 textL 0 [] = some rtab := by rfl
def rrcells (r : RRow) : List V := [.int .i64 r.1, .int .i64 r.2.1, .int .u8 r.2.2.1, .str r.2.2.2]

def rAllS (c i : Int) (out : List RRow) : S2 := headS 63 ([.dat 4 [] .no, .dat 4 (out.map rrcells) (.cls 1), .int .i64 c, .int .i64 i] ++ List.replicate 59 .bad) [] [] none

theorem text_get {i : Int} {b : UInt8} {r : List UInt8} (h : textL.drop i.toNat = b :: r) : textL[i.toNat]? = some b := by
  have : (textL.drop i.toNat)[0]? = some b := by rw [h]; rfl
  rwa [List.getElem?_drop, Nat.add_zero] at this
theorem text_next {i : Int} {b : UInt8} {r : List UInt8} (h0 : 0 ≤ i) (h : textL.drop i.toNat = b :: r) : textL.drop (i + 1).toNat = r ∧ i < 384 := by
  have h1 : (i + 1).toNat = i.toNat + 1 := by omega
  have h2 : i.toNat < textL.length := by
    by_cases hc : i.toNat < textL.length
    · exact hc
    · rw [List.drop_eq_nil_of_le (by omega)] at h; cases h
  refine ⟨?_, ?_⟩
  · rw [h1, ← List.drop_drop, h]; rfl
  · have : textL.length = 384 := rfl
    omega
theorem text_cons {i : Int} (h0 : 0 ≤ i) (h1 : i < 384) : textL.drop i.toNat = textL[i.toNat]'(by show i.toNat < 384; omega) :: textL.drop (i.toNat + 1) := List.drop_eq_getElem_cons _
theorem digs_some {t : List UInt8} : ∀ {n n' : Int} {r : List UInt8}, digs t n = some (n', r) → ∃ b r', r = b :: r' ∧ isDig b = false := by
  induction t with
  | nil => intro n n' r h; cases h
  | cons b t ih =>
    intro n n' r h
    unfold digs at h
    split at h
    · exact ih h
    · rename_i hb
      simp only [Option.some.injEq, Prod.mk.injEq] at h
      exact ⟨b, t, h.2.symm, by simpa using hb⟩
theorem rrun_cons {m : Nat} {i c : Int} {out : List RRow} {res : List RRow} (h0 : 0 ≤ i) (h1 : i < 384) (h : rrun (m + 1) (textL.drop i.toNat) c out = some res) :
    ∃ (n : Int) (b : UInt8) (r : List UInt8), digs (textL.drop i.toNat) 0 = some (n, b :: r) ∧
      ((decide ((b.toNat : Int) = 58) = true ∧ rrun m r n out = some res) ∨ (decide ((b.toNat : Int) = 58) = false ∧ ∃ sg r', sgs r [] = some (sg, r') ∧ rrun m r' c (out ++ [(c, n, (b.toNat : Int), sg)]) = some res)) := by
  rw [text_cons h0 h1] at h ⊢
  unfold rrun at h
  split at h
  · rename_i n b r hd
    refine ⟨n, b, r, hd, ?_⟩
    split at h
    · rename_i hb
      exact .inl ⟨hb, h⟩
    · rename_i hb
      split at h
      · rename_i sg r' hs
        exact .inr ⟨by simpa using hb, sg, r', hs, h⟩
      · cases h
  · cases h
def rDigS (c i j n : Int) (out : List RRow) : S2 := headS 63 ([.dat 4 [] .no, .dat 4 (out.map rrcells) (.cls 1), .int .i64 c, .int .i64 j, .int .i64 n] ++ List.replicate 58 .bad) [] [] none

def rSigS (c k n b : Int) (acc : List UInt8) (out : List RRow) : S2 := headS 63 ([.dat 4 [] .no, .dat 4 (out.map rrcells) (.cls 1), .int .i64 c, .int .i64 k, .int .i64 n, .ptr 0 0] ++ List.replicate 57 .bad) [some (.cells 68 (rrcells (c, n, b, acc)))] [] none
theorem rall_ct (G : Nat → Option (List V)) : Call2 Go.Proofs.Tryd.prog G 36 [] [] fun v H' => v = .dat 4 (rtab.map rrcells) .no := by
  refine stCall2 Go.Proofs.Tryd.func36 rfl (by decide) ?_
  conv => whnf
  intro hw
  refine wpc_loop2 (fun m s1 => ∃ (c i : Int) (out : List RRow), s1 = rAllS c i out ∧ 0 ≤ i ∧ i ≤ 384 ∧ rrun m (textL.drop i.toNat) c out = some rtab ∧ out.length + m ≤ 400) 400 (rAllS 0 0 []) ?_ ⟨0, 0, [], rfl, by decide, by decide, rtab_run, Nat.le_refl _⟩ ?_ ?_
  · exact weak2 hw rfl ⟨.nil _ _ _ _ (.inl rfl), .nil _ _ _ _ (.inl rfl), .im _, .im _, trivial⟩ (.nil _) (fun id hid => by cases hid) rfl (fun id hid => by cases hid)
  · rintro m s1 ⟨c, i, out, rfl, h1, h2, h3, h4⟩
    exact ⟨⟨Nat.le_refl 63, fun x hx => by cases hx⟩, rfl, Nat.le_refl 0, rfl⟩
  · rintro m s1 ⟨c, i, out, rfl, hi0, hi1, hrun, hlen⟩
    conv => whnf
    refine br_intro (fun hlt => ?_) (fun hge => ?_)
    · conv => whnf
      intro hw2
      rw [decide_eq_true_eq] at hlt
      obtain ⟨m', rfl⟩ : ∃ m', m = m' + 1 := by
        cases m with
        | zero =>
          exfalso
          rw [text_cons hi0 hlt] at hrun
          simp [rrun] at hrun
        | succ m => exact ⟨m, rfl⟩
      obtain ⟨n0, b0, r0, hdg, hrest⟩ := rrun_cons hi0 hlt hrun
      refine wpc_loop2 (fun m1 s1 => ∃ (j n : Int), s1 = rDigS c i j n out ∧ 0 ≤ j ∧ j ≤ 384 ∧ m1 = (textL.drop j.toNat).length ∧ digs (textL.drop j.toNat) n = some (n0, b0 :: r0)) _ (rDigS c i i 0 out) ?_ ⟨i, 0, rfl, hi0, hi1, rfl, hdg⟩ ?_ ?_
      · exact weak2 hw2 rfl ⟨.dat _ _ _, .dat _ _ _, .im _, .im _, .im _, trivial⟩ (.nil _) (fun id hid => by cases hid) rfl (fun id hid => by cases hid)
      · rintro m s1 ⟨j, n, rfl, h1, h2, h3, h4⟩
        exact ⟨⟨Nat.le_refl 63, fun x hx => by cases hx⟩, rfl, Nat.le_refl 0, rfl⟩
      · rintro m s1 ⟨j, n, rfl, hj0, hj1, rfl, hdj⟩
        obtain ⟨b, r, hbr⟩ : ∃ b r, textL.drop j.toNat = b :: r := by
          cases hd : textL.drop j.toNat with
          | nil => rw [hd] at hdj; cases hdj
          | cons b r => exact ⟨b, r, rfl⟩
        have hget := text_get hbr
        obtain ⟨hnext, hj2⟩ := text_next hj0 hbr
        have hwj : IntKind.i64.wrap (j + 1) = j + 1 := wrap_i64 (by omega) (by omega)
        have hd0 : decide (0 ≤ j) = true := decide_eq_true hj0
        rw [hbr] at hdj
        unfold digs at hdj
        conv => whnf
        refine grd_intro hd0 (optK_intro hget ?_)
        conv => whnf
        refine br_intro (fun hge => ?_) (fun hge => ?_)
        · conv => whnf
          refine grd_intro hd0 (optK_intro hget ?_)
          conv => whnf
          refine br_intro (fun hle => ?_) (fun hle => ?_)
          · have hdig : isDig b = true := by
              unfold isDig
              have h1 : decide ((b.toNat : Int) ≥ 48) = true := hge
              have h2 : decide ((b.toNat : Int) ≤ 57) = true := hle
              rw [h1, h2]; rfl
            rw [if_pos hdig] at hdj
            conv => whnf
            refine grd_intro hd0 (optK_intro hget ?_)
            conv => whnf
            intro hw3
            rw [← hnext] at hdj
            refine ⟨_, rDigS c i (j + 1) _ out, ?_, ?_, j + 1, _, rfl, by omega, by omega, rfl, hdj⟩
            · rw [hnext, hbr]; simp
            · exact weak2 hw3 rfl ⟨.dat _ _ _, .dat _ _ _, .im _, .int hwj, .im _, trivial⟩ (.nil _) (fun id hid => by cases hid) rfl (fun id hid => by cases hid)
          · have hdig : isDig b = false := by
              unfold isDig
              have h2 : decide ((b.toNat : Int) ≤ 57) = false := hle
              rw [h2, Bool.and_false]
            rw [if_neg (by rw [hdig]; decide)] at hdj
            obtain ⟨rfl, hbr0⟩ : n = n0 ∧ b :: r = b0 :: r0 := by
              have := Option.some.inj hdj
              exact ⟨congrArg Prod.fst this, congrArg Prod.snd this⟩
            obtain ⟨rfl, rfl⟩ : b = b0 ∧ r = r0 := by
              cases hbr0
              exact ⟨rfl, rfl⟩
            conv => whnf
            refine grd_intro hd0 (optK_intro hget ?_)
            conv => whnf
            refine br_intro (fun hc => ?_) (fun hc => ?_)
            · conv => whnf
              intro hw3
              rcases hrest with ⟨hc2, hrest⟩ | ⟨hc2, _⟩
              · rw [← hnext] at hrest
                refine ⟨m', rAllS n (j + 1) out, by omega, ?_, n, j + 1, out, rfl, by omega, by omega, hrest, by omega⟩
                exact weak2 hw3 rfl ⟨.dat _ _ _, .dat _ _ _, .im _, .int hwj, trivial⟩ (.nil _) (fun id hid => by cases hid) rfl (fun id hid => by cases hid)
              · have hc' : decide ((b.toNat : Int) = 58) = true := hc
                rw [hc2] at hc'; cases hc'
            · rcases hrest with ⟨hc2, hrest⟩ | ⟨hc2, sg, r', hsg, hrest⟩
              · have hc' : decide ((b.toNat : Int) = 58) = false := hc
                rw [hc2] at hc'; cases hc'
              conv => whnf
              refine grd_intro hd0 (optK_intro hget ?_)
              conv => whnf
              intro hw3
              refine wpc_loop2 (fun m1 s1 => ∃ (k : Int) (acc : List UInt8), s1 = rSigS c k n (b.toNat : Int) acc out ∧ 0 ≤ k ∧ k ≤ 384 ∧ m1 = (textL.drop k.toNat).length ∧ sgs (textL.drop k.toNat) acc = some (sg, r') ∧ (acc.length : Int) ≤ k) _ (rSigS c (j + 1) n (b.toNat : Int) [] out) ?_ ⟨j + 1, [], rfl, by omega, by omega, rfl, by rw [hnext]; exact hsg, by show (0 : Int) ≤ j + 1; omega⟩ ?_ ?_
              · exact weak2 hw3 rfl ⟨.dat _ _ _, .dat _ _ _, .im _, .int hwj, .im _, .ptr 0 0 (Nat.zero_lt_succ _), trivial⟩ (.cons (.cells _ _ _ (.cons (.im _) (.cons (.im _) (.cons (.im _) (.cons (.str _) .nil))))) (.nil _)) (fun id hid => by cases hid) rfl (fun id hid => by cases hid)
              · rintro m s1 ⟨k, acc, rfl, h1, h2, h3, h4, h5⟩
                exact ⟨⟨Nat.le_refl 63, fun x hx => by cases hx⟩, rfl, Nat.le_refl 1, rfl⟩
              · rintro m s1 ⟨k, acc, rfl, hk0, hk1, rfl, hsk, hal⟩
                obtain ⟨b2, r2, hbr2⟩ : ∃ b r, textL.drop k.toNat = b :: r := by
                  cases hd : textL.drop k.toNat with
                  | nil => rw [hd] at hsk; cases hsk
                  | cons b r => exact ⟨b, r, rfl⟩
                have hget2 := text_get hbr2
                obtain ⟨hnext2, hk2⟩ := text_next hk0 hbr2
                have hwk : IntKind.i64.wrap (k + 1) = k + 1 := wrap_i64 (by omega) (by omega)
                have hd1 : decide (0 ≤ k) = true := decide_eq_true hk0
                rw [hbr2] at hsk
                unfold sgs at hsk
                conv => whnf
                refine grd_intro hd1 (optK_intro hget2 ?_)
                conv => whnf
                refine br_intro (fun hge2 => ?_) (fun hge2 => ?_)
                · conv => whnf
                  refine grd_intro hd1 (optK_intro hget2 ?_)
                  conv => whnf
                  refine br_intro (fun hle2 => ?_) (fun hle2 => ?_)
                  · have hend : isEnd b2 = false := by
                      unfold isEnd
                      have h1 : decide ((b2.toNat : Int) ≠ 44) = true := hge2
                      have h2 : decide ((b2.toNat : Int) ≠ 59) = true := hle2
                      rw [h1, h2]; rfl
                    rw [if_neg (by rw [hend]; decide)] at hsk
                    conv => whnf
                    intro hw4
                    refine wpc_draw2 7 (by rfl) (by decide) (by decide) hw4 ?_
                    conv => whnf
                    refine grd_intro hd1 (optK_intro hget2 ?_)
                    conv => whnf
                    refine ⟨rfl, .inr rfl, [b2], rfl, ?_⟩
                    conv => whnf
                    refine ⟨?_, ?_⟩
                    · show ((acc.length + 1 : Nat) : Int) ≤ 9223372036854775807
                      omega
                    conv => whnf
                    intro hw5
                    rw [← hnext2] at hsk
                    refine ⟨_, rSigS c (k + 1) n (b.toNat : Int) (acc ++ [b2]) out, ?_, ?_, k + 1, _, rfl, by omega, by omega, rfl, hsk, by rw [List.length_append]; show ((acc.length + 1 : Nat) : Int) ≤ k + 1; omega⟩
                    · rw [hnext2, hbr2]; simp
                    · exact weak2 hw5 rfl ⟨.dat _ _ _, .dat _ _ _, .im _, .int hwk, .im _, .ptr 0 0 (Nat.zero_lt_succ _), trivial⟩ (.cons (.cells _ _ _ (.cons (.im _) (.cons (.im _) (.cons (.im _) (.cons (.str _) .nil))))) (.nil _)) (fun id hid => by cases hid) rfl (fun id hid => by cases hid)
                  · have hend : isEnd b2 = true := by
                      unfold isEnd
                      have h2 : decide ((b2.toNat : Int) ≠ 59) = false := hle2
                      rw [h2, Bool.and_false]; rfl
                    rw [if_pos hend] at hsk
                    obtain ⟨rfl, rfl⟩ : acc = sg ∧ r2 = r' := by
                      have := Option.some.inj hsk
                      exact ⟨congrArg Prod.fst this, congrArg Prod.snd this⟩
                    conv => whnf
                    refine ⟨.inr rfl, .inr rfl, ?_, ?_, ?_, ?_⟩
                    · exact (fun q hq => by
                        have hq' : q ∈ [rrcells (c, n, (b.toNat : Int), acc)] := hq
                        simp only [List.mem_cons, List.not_mem_nil, or_false] at hq'
                        subst hq'
                        rfl)
                    · show ((out.map rrcells).length + 1) * 40 ≤ maxBytes
                      rw [List.length_map]
                      unfold maxBytes
                      omega
                    · show (out.map rrcells).length + 1 ≤ maxBytes
                      rw [List.length_map]
                      unfold maxBytes
                      omega
                    conv => whnf
                    intro hw5
                    rw [← hnext2] at hrest
                    refine ⟨m', rAllS c (k + 1) (out ++ [(c, n, (b.toNat : Int), acc)]), by omega, ?_, c, k + 1, _, rfl, by omega, by omega, hrest, by rw [List.length_append]; show _ + 1 + _ ≤ _; omega⟩
                    have hmap : (out ++ [(c, n, (b.toNat : Int), acc)]).map rrcells = out.map rrcells ++ [rrcells (c, n, (b.toNat : Int), acc)] := by rw [List.map_append]; rfl
                    unfold rAllS
                    rw [hmap]
                    exact weak2 hw5 rfl ⟨.dat _ _ _, .dat _ _ _, .im _, .int hwk, trivial⟩ (.nil _) (fun id hid => by cases hid) rfl (fun id hid => by cases hid)
                · have hend : isEnd b2 = true := by
                    unfold isEnd
                    have h2 : decide ((b2.toNat : Int) ≠ 44) = false := hge2
                    rw [h2, Bool.false_and]; rfl
                  rw [if_pos hend] at hsk
                  obtain ⟨rfl, rfl⟩ : acc = sg ∧ r2 = r' := by
                    have := Option.some.inj hsk
                    exact ⟨congrArg Prod.fst this, congrArg Prod.snd this⟩
                  conv => whnf
                  refine ⟨.inr rfl, .inr rfl, ?_, ?_, ?_, ?_⟩
                  · exact (fun q hq => by
                      have hq' : q ∈ [rrcells (c, n, (b.toNat : Int), acc)] := hq
                      simp only [List.mem_cons, List.not_mem_nil, or_false] at hq'
                      subst hq'
                      rfl)
                  · show ((out.map rrcells).length + 1) * 40 ≤ maxBytes
                    rw [List.length_map]
                    unfold maxBytes
                    omega
                  · show (out.map rrcells).length + 1 ≤ maxBytes
                    rw [List.length_map]
                    unfold maxBytes
                    omega
                  conv => whnf
                  intro hw5
                  rw [← hnext2] at hrest
                  refine ⟨m', rAllS c (k + 1) (out ++ [(c, n, (b.toNat : Int), acc)]), by omega, ?_, c, k + 1, _, rfl, by omega, by omega, hrest, by rw [List.length_append]; show _ + 1 + _ ≤ _; omega⟩
                  have hmap : (out ++ [(c, n, (b.toNat : Int), acc)]).map rrcells = out.map rrcells ++ [rrcells (c, n, (b.toNat : Int), acc)] := by rw [List.map_append]; rfl
                  unfold rAllS
                  rw [hmap]
                  exact weak2 hw5 rfl ⟨.dat _ _ _, .dat _ _ _, .im _, .int hwk, trivial⟩ (.nil _) (fun id hid => by cases hid) rfl (fun id hid => by cases hid)
        · have hdig : isDig b = false := by
            unfold isDig
            have h2 : decide ((b.toNat : Int) ≥ 48) = false := hge
            rw [h2, Bool.false_and]
          rw [if_neg (by rw [hdig]; decide)] at hdj
          obtain ⟨rfl, hbr0⟩ : n = n0 ∧ b :: r = b0 :: r0 := by
            have := Option.some.inj hdj
            exact ⟨congrArg Prod.fst this, congrArg Prod.snd this⟩
          obtain ⟨rfl, rfl⟩ : b = b0 ∧ r = r0 := by
            cases hbr0
            exact ⟨rfl, rfl⟩
          conv => whnf
          refine grd_intro hd0 (optK_intro hget ?_)
          conv => whnf
          refine br_intro (fun hc => ?_) (fun hc => ?_)
          · conv => whnf
            intro hw3
            rcases hrest with ⟨hc2, hrest⟩ | ⟨hc2, _⟩
            · rw [← hnext] at hrest
              refine ⟨m', rAllS n (j + 1) out, by omega, ?_, n, j + 1, out, rfl, by omega, by omega, hrest, by omega⟩
              exact weak2 hw3 rfl ⟨.dat _ _ _, .dat _ _ _, .im _, .int hwj, trivial⟩ (.nil _) (fun id hid => by cases hid) rfl (fun id hid => by cases hid)
            · have hc' : decide ((b.toNat : Int) = 58) = true := hc
              rw [hc2] at hc'; cases hc'
          · rcases hrest with ⟨hc2, hrest⟩ | ⟨hc2, sg, r', hsg, hrest⟩
            · have hc' : decide ((b.toNat : Int) = 58) = false := hc
              rw [hc2] at hc'; cases hc'
            conv => whnf
            refine grd_intro hd0 (optK_intro hget ?_)
            conv => whnf
            intro hw3
            refine wpc_loop2 (fun m1 s1 => ∃ (k : Int) (acc : List UInt8), s1 = rSigS c k n (b.toNat : Int) acc out ∧ 0 ≤ k ∧ k ≤ 384 ∧ m1 = (textL.drop k.toNat).length ∧ sgs (textL.drop k.toNat) acc = some (sg, r') ∧ (acc.length : Int) ≤ k) _ (rSigS c (j + 1) n (b.toNat : Int) [] out) ?_ ⟨j + 1, [], rfl, by omega, by omega, rfl, by rw [hnext]; exact hsg, by show (0 : Int) ≤ j + 1; omega⟩ ?_ ?_
            · exact weak2 hw3 rfl ⟨.dat _ _ _, .dat _ _ _, .im _, .int hwj, .im _, .ptr 0 0 (Nat.zero_lt_succ _), trivial⟩ (.cons (.cells _ _ _ (.cons (.im _) (.cons (.im _) (.cons (.im _) (.cons (.str _) .nil))))) (.nil _)) (fun id hid => by cases hid) rfl (fun id hid => by cases hid)
            · rintro m s1 ⟨k, acc, rfl, h1, h2, h3, h4, h5⟩
              exact ⟨⟨Nat.le_refl 63, fun x hx => by cases hx⟩, rfl, Nat.le_refl 1, rfl⟩
            · rintro m s1 ⟨k, acc, rfl, hk0, hk1, rfl, hsk, hal⟩
              obtain ⟨b2, r2, hbr2⟩ : ∃ b r, textL.drop k.toNat = b :: r := by
                cases hd : textL.drop k.toNat with
                | nil => rw [hd] at hsk; cases hsk
                | cons b r => exact ⟨b, r, rfl⟩
              have hget2 := text_get hbr2
              obtain ⟨hnext2, hk2⟩ := text_next hk0 hbr2
              have hwk : IntKind.i64.wrap (k + 1) = k + 1 := wrap_i64 (by omega) (by omega)
              have hd1 : decide (0 ≤ k) = true := decide_eq_true hk0
              rw [hbr2] at hsk
              unfold sgs at hsk
              conv => whnf
              refine grd_intro hd1 (optK_intro hget2 ?_)
              conv => whnf
              refine br_intro (fun hge2 => ?_) (fun hge2 => ?_)
              · conv => whnf
                refine grd_intro hd1 (optK_intro hget2 ?_)
                conv => whnf
                refine br_intro (fun hle2 => ?_) (fun hle2 => ?_)
                · have hend : isEnd b2 = false := by
                    unfold isEnd
                    have h1 : decide ((b2.toNat : Int) ≠ 44) = true := hge2
                    have h2 : decide ((b2.toNat : Int) ≠ 59) = true := hle2
                    rw [h1, h2]; rfl
                  rw [if_neg (by rw [hend]; decide)] at hsk
                  conv => whnf
                  intro hw4
                  refine wpc_draw2 7 (by rfl) (by decide) (by decide) hw4 ?_
                  conv => whnf
                  refine grd_intro hd1 (optK_intro hget2 ?_)
                  conv => whnf
                  refine ⟨rfl, .inr rfl, [b2], rfl, ?_⟩
                  conv => whnf
                  refine ⟨?_, ?_⟩
                  · show ((acc.length + 1 : Nat) : Int) ≤ 9223372036854775807
                    omega
                  conv => whnf
                  intro hw5
                  rw [← hnext2] at hsk
                  refine ⟨_, rSigS c (k + 1) n (b.toNat : Int) (acc ++ [b2]) out, ?_, ?_, k + 1, _, rfl, by omega, by omega, rfl, hsk, by rw [List.length_append]; show ((acc.length + 1 : Nat) : Int) ≤ k + 1; omega⟩
                  · rw [hnext2, hbr2]; simp
                  · exact weak2 hw5 rfl ⟨.dat _ _ _, .dat _ _ _, .im _, .int hwk, .im _, .ptr 0 0 (Nat.zero_lt_succ _), trivial⟩ (.cons (.cells _ _ _ (.cons (.im _) (.cons (.im _) (.cons (.im _) (.cons (.str _) .nil))))) (.nil _)) (fun id hid => by cases hid) rfl (fun id hid => by cases hid)
                · have hend : isEnd b2 = true := by
                    unfold isEnd
                    have h2 : decide ((b2.toNat : Int) ≠ 59) = false := hle2
                    rw [h2, Bool.and_false]; rfl
                  rw [if_pos hend] at hsk
                  obtain ⟨rfl, rfl⟩ : acc = sg ∧ r2 = r' := by
                    have := Option.some.inj hsk
                    exact ⟨congrArg Prod.fst this, congrArg Prod.snd this⟩
                  conv => whnf
                  refine ⟨.inr rfl, .inr rfl, ?_, ?_, ?_, ?_⟩
                  · exact (fun q hq => by
                      have hq' : q ∈ [rrcells (c, n, (b.toNat : Int), acc)] := hq
                      simp only [List.mem_cons, List.not_mem_nil, or_false] at hq'
                      subst hq'
                      rfl)
                  · show ((out.map rrcells).length + 1) * 40 ≤ maxBytes
                    rw [List.length_map]
                    unfold maxBytes
                    omega
                  · show (out.map rrcells).length + 1 ≤ maxBytes
                    rw [List.length_map]
                    unfold maxBytes
                    omega
                  conv => whnf
                  intro hw5
                  rw [← hnext2] at hrest
                  refine ⟨m', rAllS c (k + 1) (out ++ [(c, n, (b.toNat : Int), acc)]), by omega, ?_, c, k + 1, _, rfl, by omega, by omega, hrest, by rw [List.length_append]; show _ + 1 + _ ≤ _; omega⟩
                  have hmap : (out ++ [(c, n, (b.toNat : Int), acc)]).map rrcells = out.map rrcells ++ [rrcells (c, n, (b.toNat : Int), acc)] := by rw [List.map_append]; rfl
                  unfold rAllS
                  rw [hmap]
                  exact weak2 hw5 rfl ⟨.dat _ _ _, .dat _ _ _, .im _, .int hwk, trivial⟩ (.nil _) (fun id hid => by cases hid) rfl (fun id hid => by cases hid)
              · have hend : isEnd b2 = true := by
                  unfold isEnd
                  have h2 : decide ((b2.toNat : Int) ≠ 44) = false := hge2
                  rw [h2, Bool.false_and]; rfl
                rw [if_pos hend] at hsk
                obtain ⟨rfl, rfl⟩ : acc = sg ∧ r2 = r' := by
                  have := Option.some.inj hsk
                  exact ⟨congrArg Prod.fst this, congrArg Prod.snd this⟩
                conv => whnf
                refine ⟨.inr rfl, .inr rfl, ?_, ?_, ?_, ?_⟩
                · exact (fun q hq => by
                    have hq' : q ∈ [rrcells (c, n, (b.toNat : Int), acc)] := hq
                    simp only [List.mem_cons, List.not_mem_nil, or_false] at hq'
                    subst hq'
                    rfl)
                · show ((out.map rrcells).length + 1) * 40 ≤ maxBytes
                  rw [List.length_map]
                  unfold maxBytes
                  omega
                · show (out.map rrcells).length + 1 ≤ maxBytes
                  rw [List.length_map]
                  unfold maxBytes
                  omega
                conv => whnf
                intro hw5
                rw [← hnext2] at hrest
                refine ⟨m', rAllS c (k + 1) (out ++ [(c, n, (b.toNat : Int), acc)]), by omega, ?_, c, k + 1, _, rfl, by omega, by omega, hrest, by rw [List.length_append]; show _ + 1 + _ ≤ _; omega⟩
                have hmap : (out ++ [(c, n, (b.toNat : Int), acc)]).map rrcells = out.map rrcells ++ [rrcells (c, n, (b.toNat : Int), acc)] := by rw [List.map_append]; rfl
                unfold rAllS
                rw [hmap]
                exact weak2 hw5 rfl ⟨.dat _ _ _, .dat _ _ _, .im _, .int hwk, trivial⟩ (.nil _) (fun id hid => by cases hid) rfl (fun id hid => by cases hid)
    · rw [decide_eq_false_iff_not] at hge
      obtain rfl : i = 384 := by omega
      have : out = rtab := by
        have h : rrun m [] c out = some rtab := hrun
        cases m <;> (simp only [rrun, Option.some.injEq] at h; exact h)
      subst this
      conv => whnf
      rfl


end Go.Abs.Sig
