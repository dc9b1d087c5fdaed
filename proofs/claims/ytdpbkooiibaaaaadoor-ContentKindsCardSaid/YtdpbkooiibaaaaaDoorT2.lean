/- The walks of some functions: what they compute. -/
import Derived.Test.YtdpbkooiibaaaaaDoorT1
import Derived.Test.YtdpbkooiibaaaaaDoorRows
import Derived.LaidMore
import Derived.Stop.Joined

/-! CA5 -/
namespace Go.Abs.Sig
open Go.RowKit Go.Abs
set_option linter.unusedSimpArgs false
set_option linter.unusedVariables false
set_option maxRecDepth 8000
attribute [local irreducible] StCall StYield WPc Weak IterOf Lp2

/-! ### commands -/
abbrev Cm := Met × Hd × List UInt8
def ccells (c : Cm) : List V := mcells c.1 ++ hdcells c.2.1 ++ [.str c.2.2]
theorem ccells_free' (c : Cm) : ∀ v ∈ ccells c, v.Free := fun v hv => by
  unfold ccells at hv
  rcases List.mem_append.1 hv with hv | hv
  · rcases List.mem_append.1 hv with hv | hv
    · exact mcells_free' c.1 v hv
    · exact hdcells_free' c.2.1 v hv
  · obtain rfl := List.mem_singleton.1 hv
    exact .str _
theorem ccells_free (c : Cm) : (V.agg (ccells c)).Free := .agg _ (ccells_free' c)
theorem vw_hdE {n : Nat} {a b c : Int} {es : Nat} {l : List Val'} {fl : Fl} (h : es = 2 ∨ l = []) : VW n (.agg [.int .i64 a, .int .u64 b, .int .u64 c, .dat es (vals l) fl]) (.agg (hdcells (a, b, c, l))) := by
  refine .agg _ _ rfl fun i v v' h1 h2 => ?_
  match i, h1, h2 with
  | 0, h1, h2 => cases h1; cases h2; exact .im _
  | 1, h1, h2 => cases h1; cases h2; exact .im _
  | 2, h1, h2 => cases h1; cases h2; exact .im _
  | 3, h1, h2 =>
    cases h1; cases h2
    rcases h with rfl | rfl
    · exact .no _ _ _
    · exact .nil _ _ _ _ (.inr (.inl rfl))
  | i + 4, h1, h2 => simp at h1
def zHd : Hd := (0, 0, 0, [])
def cRight (c : Cm) : Int :=
  if mright tbv c.1 ≠ 0 then mright tbv c.1
  else if content c.1.1 c.1.2.1 = false then (if c.2.1 ≠ zHd ∨ c.2.2 ≠ [] then 3 else 0)
  else if hRight c.2.1 ≠ 0 then hRight c.2.1
  else if c.2.1.2.1 ≠ (c.2.2.length : Int) then 3 else 0
/-- All texts of a command are short enough. -/
def CmS (c : Cm) : Prop := (∀ v ∈ c.1.2.2, v.2.length ≤ maxBytes) ∧ (∀ v ∈ c.2.1.2.2.2, v.2.length ≤ maxBytes) ∧ c.2.1.2.2.2.length ≤ maxLen ∧ c.2.2.length ≤ maxBytes

theorem content_ct (G : Nat → Option (List V)) (c i : Int) (H : Heap) : Call2 Go.Proofs.Tryd.prog G 11 [.int .i64 c, .int .i64 i] H fun v H' => H' = H ∧ v = .bool (content c i) := by
  refine Call2.free (int_free (vs := [c, i])) ?_ H
  refine stCall2 Go.Proofs.Tryd.func11 rfl (by decide) ?_
  conv => whnf
  iterate 5 (all_goals try (refine br_intro ?_ ?_ <;> intro h <;> conv => whnf))
  all_goals refine ⟨.im _, ?_⟩
  all_goals simp_all [content, V.strip, bsel]

theorem cright_ct (G : Nat → Option (List V)) (hG : G 0 = some wV) (c : Cm) (hc : CmS c) (H : Heap) : Call2 Go.Proofs.Tryd.prog G 7 [.agg (ccells c)] H fun r H' => H' = H ∧ r = .int .i64 (cRight c) := by
  refine Call2.free (fun x hx => by
    simp only [List.mem_cons, List.not_mem_nil, or_false] at hx
    rcases hx with rfl
    exact ccells_free _) ?_ H
  obtain ⟨hc1, hc2, hc3, hc4⟩ := hc
  have h1 := mrightT_ct G hG c.1 (fun v hv => le_maxStr (hc1 v hv))
  have h2 := content_ct G c.1.1 c.1.2.1
  have h3 := psame_ct G c.2.1 zHd hc3
  have h4 := hright_ct G hG c.2.1 (fun v hv => le_maxStr (hc2 v hv))
  have hd : decide (c.2.1 = zHd) = !decide (c.2.1 ≠ zHd) := by simp
  rw [hd] at h3
  have hb : c.2.2.length ≤ 140737488355328 := hc4
  unfold cRight
  generalize mright tbv c.1 = e1 at h1 ⊢
  generalize content c.1.1 c.1.2.1 = e2 at h2 ⊢
  generalize hRight c.2.1 = e4 at h4 ⊢
  have hz : (if c.2.1 ≠ zHd ∨ c.2.2 ≠ [] then (3 : Int) else 0) = if decide (c.2.1 ≠ zHd) = true ∨ c.2.2 ≠ [] then 3 else 0 := by simp
  rw [hz]
  generalize decide (c.2.1 ≠ zHd) = e3 at h3 ⊢
  clear hz hd
  obtain ⟨⟨a, b, l⟩, ⟨x, y, z, k⟩, s⟩ := c
  simp only at h1 h2 h3 h4 hb ⊢
  have hws : IntKind.u64.wrap (s.length : Int) = (s.length : Int) := wrap_u64 (by omega) (by omega)
  refine stCall2 Go.Proofs.Tryd.func7 rfl (by decide) ?_
  conv => whnf
  refine Call2.mono (h1 _) fun r0 H0 h => ?_
  obtain ⟨h1, h2⟩ := h
  rw [h1, h2]
  clear h1 h2 r0 H0
  conv => whnf
  by_cases he : e1 ≠ 0
  · refine br_t (decide_eq_true he) ?_
    rw [if_pos he]
    conv => whnf
    exact ⟨.im _, rfl⟩
  refine br_f (decide_eq_false he) ?_
  rw [if_neg he]
  conv => whnf
  refine Call2.mono (h2 _) fun r0 H0 h => ?_
  obtain ⟨h1, h2⟩ := h
  rw [h1, h2]
  clear h1 h2 r0 H0
  conv => whnf
  cases e2 with
  | false =>
    rw [if_pos rfl]
    conv => whnf
    refine Call2.weakA (args' := [.agg (hdcells (x, y, z, k)), .agg (hdcells zHd)]) (.cons (.free (hdcells_free _)) (.cons (vw_hdE (l := []) (.inr rfl)) .nil)) (Call2.mono (h3 _) fun r0 H0 h => ?_)
    obtain ⟨h1, h2⟩ := h
    rw [h1, h2]
    clear h1 h2 r0 H0
    conv => whnf
    cases e3 with
    | true =>
      rw [if_pos (.inl rfl)]
      conv => whnf
      exact ⟨.im _, rfl⟩
    | false =>
      conv => whnf
      by_cases hs : s = []
      · subst hs
        conv => whnf
        exact ⟨.im _, rfl⟩
      · refine br_t (show bsel false true (decide (s ≠ [])) = true from decide_eq_true hs) ?_
        rw [if_pos (.inr hs)]
        conv => whnf
        exact ⟨.im _, rfl⟩
  | true =>
    rw [if_neg (by decide)]
    conv => whnf
    refine Call2.mono (h4 _) fun r0 H0 h => ?_
    obtain ⟨h1, h2⟩ := h
    rw [h1, h2]
    clear h1 h2 r0 H0
    conv => whnf
    by_cases h4 : e4 = 0
    · subst h4
      rw [if_neg (fun h => h rfl)]
      conv => whnf
      rw [hws]
      by_cases h5 : y = (s.length : Int)
      · refine br_f (show bsel true (decide (y ≠ (s.length : Int))) false = false from decide_eq_false (fun h => h h5)) ?_
        rw [if_neg (fun h => h h5)]
        conv => whnf
        exact ⟨.im _, rfl⟩
      · refine br_t (show bsel true (decide (y ≠ (s.length : Int))) false = true from decide_eq_true h5) ?_
        rw [if_pos h5]
        conv => whnf
        exact ⟨.im _, rfl⟩
    · refine br_f (decide_eq_false h4) ?_
      rw [if_pos h4]
      conv => whnf
      exact ⟨.im _, rfl⟩
end Go.Abs.Sig

/-! CA6 -/
namespace Go.Abs.Sig
open Go.RowKit Go.Abs
set_option linter.unusedSimpArgs false
set_option linter.unusedVariables false
set_option maxRecDepth 8000
attribute [local irreducible] StCall StYield WPc Weak IterOf Lp2

/-! ### pieces -/
def cutF : Nat → Nat → List UInt8 → List (List UInt8)
  | 0, _, _ => []
  | f + 1, n, s => if s = [] then [] else s.take n :: cutF f n (s.drop n)
def strR (l : List (List UInt8)) : List (List V) := l.map fun s => [.str s]
def cutT : List V := [.bad, .bad, .bad, .bad, .bad, .ptr 0 0, .bad, .bad, .bad, .bad, .fn (.func 38) [] [.ptr 1 0, .ptr 2 0]] ++ List.replicate 6 .bad
def cutH (l : List (List UInt8)) (cur : List UInt8) (n : Nat) : Heap := [some (.cells 48 [.dat 1 (strR l) (.cls 15)]), some (.cells 9 [.str cur]), some (.cells 3 [.im (.int .i64 (n : Int))])]
def cutH5 (l : List (List UInt8)) (cur : List UInt8) (n : Nat) (b : Blk) : Heap := [some (.cells 48 [.dat 1 (strR l) (.cls 15)]), some (.cells 9 [.str cur]), some (.cells 3 [.im (.int .i64 (n : Int))]), some .defd, some b]
def cutS (l : List (List UInt8)) (cur : List UInt8) (n : Nat) (b : Blk) : S2 := headS 20 ([.yld 4, .ptr 1 0, .ptr 2 0] ++ List.replicate 17 .bad) (cutH5 l cur n b) [] none
theorem fn38_vw {n : Nat} (h : 2 < n) : VW n (.fn (.func 38) [] [.ptr 1 0, .ptr 2 0]) (.fn (.func 38) [] [.ptr 1 0, .ptr 2 0]) := .fn _ _ _ (fun i v h => by simp at h) (fun i v hv => by
  have hv := List.mem_of_getElem? hv
  simp only [List.mem_cons, List.not_mem_nil, or_false] at hv
  rcases hv with rfl | rfl
  · exact .ptr 1 0 (by omega)
  · exact .ptr 2 0 h)
theorem bw_str {n : Nat} (t : TypeId) (s : List UInt8) : BW n (some (.cells t [.str s])) (some (.cells t [.str s])) := .free fun v hv => by
  obtain rfl := List.mem_singleton.1 hv
  exact .str _
theorem bw_dat {n : Nat} (t : TypeId) (es : Nat) (rows : List (List V)) (fl : Fl) : BW n (some (.cells t [.dat es rows fl])) (some (.cells t [.dat es rows fl])) := .cells _ _ _ (.cons (.dat _ _ _) .nil)
theorem cutT_vws : VWs 5 cutT cutT := by
  refine .cons (.bad _) (.cons (.bad _) (.cons (.bad _) (.cons (.bad _) (.cons (.bad _) (.cons (.ptr 0 0 (show 0 < 5 by decide)) (.cons (.bad _) (.cons (.bad _) (.cons (.bad _) (.cons (.bad _) (.cons (fn38_vw (by decide)) ?_))))))))))
  exact .cons (.bad _) (.cons (.bad _) (.cons (.bad _) (.cons (.bad _) (.cons (.bad _) (.cons (.bad _) .nil)))))
theorem cutH5_bws (l : List (List UInt8)) (cur : List UInt8) (n : Nat) (b : Blk) (hb : BW 5 (some b) (some b)) : BWs 5 (cutH5 l cur n b) (cutH5 l cur n b) :=
  .cons (bw_dat _ _ _ _) (.cons (bw_str _ _) (.cons (bw_im _ _) (.cons .defd (.cons hb (.nil _)))))

theorem pieces_iter (G : Nat → Option (List V)) (n : Nat) (hn : 0 < n) (cA cB : Code) (b : Blk) (hbe : b = .loop .ready none cutT #[11] cA cB 3) (hb : BW 5 (some b) (some b)) (N : Nat)
    (body : ∀ (p : List UInt8) (l : List (List UInt8)) (cur : List UInt8), l.length < N → StYield Go.Proofs.Tryd.prog G 4 [.str p] (cutH5 l cur n b) fun r H' => r = .bool true ∧ H' = cutH5 (l ++ [p]) cur n b)
    (s : List UInt8) (hs : s.length ≤ N) (hN : N ≤ 1000000000000) :
    Call2 Go.Proofs.Tryd.prog G 38 [.yld 4, .ptr 1 0, .ptr 2 0] (cutH5 [] s n b) fun _ H' => H' = cutH5 (cutF s.length n s) [] n b := by
  refine stCall2 Go.Proofs.Tryd.func38 rfl (by decide) ?_
  conv => whnf
  intro hw
  refine wpc_loop2 (fun m s1 => ∃ (f : Nat) (l : List (List UInt8)) (cur : List UInt8), cur.length ≤ f ∧ l ++ cutF f n cur = cutF s.length n s ∧ l.length + cur.length ≤ s.length ∧ m = f ∧ s1 = cutS l cur n b) s.length (cutS [] s n b) ?_ ⟨s.length, [], s, Nat.le_refl _, rfl, by simp, rfl, rfl⟩ ?_ ?_
  · exact weak2 hw rfl ⟨.yld 4 (show 4 < 5 by decide), .ptr 1 0 (show 1 < 5 by decide), .ptr 2 0 (show 2 < 5 by decide), trivial⟩ (cutH5_bws _ _ _ _ hb) (fun id hid => by cases hid) rfl (fun id hid => by cases hid)
  · rintro m s1 ⟨f, l, cur, _, _, _, _, rfl⟩
    exact ⟨⟨Nat.le_refl 20, fun x hx => by cases hx⟩, rfl, Nat.le_refl _, rfl⟩
  rintro m s1 ⟨f, l, cur, hf, hinv, hlc, rfl, rfl⟩
  by_cases hc : cur = []
  · subst hc
    have : cutF m n [] = [] := by cases m <;> rfl
    rw [this, List.append_nil] at hinv
    conv => whnf
    rw [← hinv]
  · have hcl : 0 < cur.length := List.length_pos_iff.2 hc
    obtain ⟨m, rfl⟩ : ∃ m', m = m' + 1 := ⟨m - 1, by omega⟩
    rw [cutF, if_neg hc] at hinv
    conv => whnf
    refine br_t (decide_eq_true hc) ?_
    conv => whnf
    have hk : (if (cur.length : Int) < (n : Int) then (cur.length : Int) else (n : Int)) = ((min n cur.length : Nat) : Int) := by
      split <;> omega
    have e1 : List.drop (0 : Int).toNat (List.take ((min n cur.length : Nat) : Int).toNat cur) = cur.take n := by
      show List.drop 0 (List.take (min n cur.length) cur) = _
      rw [List.drop_zero, ← List.take_eq_take_min]
    have e2 : List.drop ((min n cur.length : Nat) : Int).toNat (List.take ((cur.length : Nat) : Int).toNat cur) = cur.drop n := by
      show List.drop (min n cur.length) (List.take cur.length cur) = _
      rw [List.take_length, ← List.drop_eq_drop_min]
    have hdl : (cur.drop n).length < cur.length := by rw [List.length_drop]; omega
    rw [hk]
    refine ⟨⟨by decide, by omega, by omega⟩, ?_⟩
    rw [e1]
    conv => whnf
    refine (body _ l cur (by omega)).mono fun r H' hh => ?_
    obtain ⟨rfl, rfl⟩ := hh
    conv => whnf
    refine ⟨⟨by omega, by omega, by omega⟩, ?_⟩
    rw [e2]
    conv => whnf
    intro hw2
    refine ⟨m, cutS (l ++ [cur.take n]) (cur.drop n) n b, by omega, ?_, m, _, _, by omega, ?_, ?_, rfl, rfl⟩
    · exact weak2 hw2 rfl ⟨.yld 4 (show 4 < 5 by decide), .ptr 1 0 (show 1 < 5 by decide), .ptr 2 0 (show 2 < 5 by decide), trivial⟩ (cutH5_bws _ _ _ _ hb) (fun id hid => by cases hid) rfl (fun id hid => by cases hid)
    · rw [← hinv, List.append_assoc]; rfl
    · rw [List.length_append]
      show l.length + 1 + _ ≤ _
      omega
theorem strR_app (a b : List (List UInt8)) : strR (a ++ b) = strR a ++ strR b := by simp [strR]
theorem strR_len (a : List (List UInt8)) : (strR a).length = a.length := by simp [strR]
theorem cut_ct (G : Nat → Option (List V)) (s : List UInt8) (n : Int) (hs : s.length ≤ 1000000000000) (H : Heap) : Call2 Go.Proofs.Tryd.prog G 13 [.str s, .int .i64 n] H fun r H' => H' = H ∧ r = .dat 1 (strR (cutF s.length (max n 1).toNat s)) .no := by
  refine Call2.free (fun x hx => by
    simp only [List.mem_cons, List.not_mem_nil, or_false] at hx
    rcases hx with rfl | rfl
    · exact .str _
    · exact .im _) ?_ H
  have hmax : (if n < 1 then (1 : Int) else n) = (((max n 1).toNat : Nat) : Int) := by split <;> omega
  have hn : 0 < (max n 1).toNat := by omega
  generalize (max n 1).toNat = k at hmax hn
  refine stCall2 Go.Proofs.Tryd.func13 rfl (by decide) ?_
  conv => whnf
  rw [hmax]
  refine stCall2 Go.Proofs.Tryd.func27 rfl (by decide) ?_
  conv => whnf
  intro hw
  refine WPc.weak (σ0 := (headS 17 cutT (cutH [] s k) [] none).st) ?_ (Nat.le_refl _) ?_
  · refine weak2 hw rfl ⟨.ptr 0 0 (show 0 < 3 by decide), fn38_vw (show 2 < 3 by decide), trivial⟩ ?_ (fun id hid => by cases hid) rfl (fun id hid => by cases hid)
    exact .cons (.cells _ _ _ (.cons (.nil _ _ _ _ (.inl rfl)) .nil)) (.cons (bw_str _ _) (.cons (bw_im _ _) (.nil _)))
  clear hw
  refine wpc_rangeIn2 (show 17 ≤ 17 by decide) rfl rfl ?_
  refine Call2.mono (pieces_iter G k hn _ _ _ rfl (.loop _ _ _ _ _ _ _ _ cutT_vws (show 3 < 5 by decide)) s.length ?_ s (Nat.le_refl _) hs) ?_
  · intro p l cur hl
    have hsl := strR_len l
    refine yield2 (n := 17) rfl rfl rfl (show 17 ≤ 17 by decide) ?_
    conv => whnf
    refine ⟨rfl, rfl, ?_⟩
    conv => whnf
    refine ⟨.inr rfl, .inr rfl, ?_, ?_, ?_, ?_⟩
    · intro r hr
      obtain rfl := List.mem_singleton.1 hr
      rfl
    · show ((strR l).length + 1) * 16 ≤ 140737488355328
      omega
    · show (strR l).length + 1 ≤ 140737488355328
      omega
    conv => whnf
    unfold cutH5
    rw [strR_app]
    exact ⟨rfl, rfl⟩
  · rintro r H' rfl
    conv => whnf
    exact ⟨V.Free.dat 1 (strR (cutF s.length k s)) .no (by simp), rfl⟩
end Go.Abs.Sig

/-! CA7 -/
namespace Go.Abs.Sig
open Go.RowKit Go.Abs
set_option linter.unusedSimpArgs false
set_option linter.unusedVariables false
set_option maxRecDepth 8000
attribute [local irreducible] StCall StYield WPc Weak IterOf Lp2

theorem putB_lenC (n : Nat) (v : Int) : (putB n v).length = n := by simp [putB]
theorem nput_lenC (n : Nat) (v : Int) : (nput n v).1.length ≤ n := by
  unfold nput
  split
  · exact Nat.zero_le _
  · simp [putB_lenC]
theorem layS_lenC (n : Nat) (s : List UInt8) : (layS n s).1.length ≤ n + s.length := by
  unfold layS
  split
  · exact Nat.zero_le _
  · simp [putB_lenC]
/-- A property's bytes. -/
def layP (c : UInt8) (v : Val') : List UInt8 := if c = 111 then (nput 1 v.1).1 else if c = 113 then (nput 8 v.1).1 else if c = 83 then (layS 1 v.2).1 else v.2
def goP : List Nat → List Val' → List UInt8
  | i :: is, v :: vs => layP (pLet.getD i 0) v ++ goP is vs
  | _, _ => []
def hBytes (h : Hd) : List UInt8 := (nput 2 h.1).1 ++ (nput 2 0).1 ++ (nput 8 h.2.1).1 ++ (nput 2 h.2.2.1).1 ++ goP (pIdx h.2.2.1) h.2.2.2
theorem layP_len (c : UInt8) (v : Val') : (layP c v).length ≤ 8 + v.2.length := by
  have h1 := nput_lenC 1 v.1
  have h2 := nput_lenC 8 v.1
  have h3 := layS_lenC 1 v.2
  unfold layP
  repeat' split
  all_goals omega
theorem goP_len (B : Nat) : ∀ (is : List Nat) (vs : List Val'), (∀ v ∈ vs, v.2.length ≤ B) → (goP is vs).length ≤ is.length * (8 + B)
  | [], _, _ => by simp [goP]
  | _ :: _, [], _ => by simp [goP]
  | i :: is, v :: vs, h => by
    have h1 := layP_len (pLet.getD i 0) v
    have h2 := goP_len B is vs fun x hx => h x (List.mem_cons_of_mem _ hx)
    have h3 := h v (List.mem_cons_self ..)
    rw [goP, List.length_append, List.length_cons, Nat.succ_mul]
    omega
theorem pIdx_len (fl : Int) : (pIdx fl).length ≤ 14 := pCnt_le fl 14
theorem hBytes_len {h : Hd} (hs : ∀ v ∈ h.2.2.2, v.2.length ≤ maxBytes) : (hBytes h).length ≤ 14 + 14 * (8 + maxBytes) := by
  have h1 := nput_lenC 2 h.1
  have h2 := nput_lenC 2 0
  have h3 := nput_lenC 8 h.2.1
  have h4 := nput_lenC 2 h.2.2.1
  have h5 := goP_len maxBytes (pIdx h.2.2.1) h.2.2.2 hs
  have h6 := Nat.mul_le_mul_right (8 + maxBytes) (pIdx_len h.2.2.1)
  unfold hBytes
  simp only [List.length_append]
  omega

theorem pput_ct (G : Nat → Option (List V)) (hG : G 0 = some wV) (n : Nat) (hn : n = 1 ∨ n = 2 ∨ n = 4 ∨ n = 8) (v : Int) (H : Heap) : Call2 Go.Proofs.Tryd.prog G 24 [.int .i64 (n : Int), .int .u64 v] H fun r H' => H' = H ∧ r = .str (nput n v).1 := by
  refine Call2.free (fun x hx => by
    simp only [List.mem_cons, List.not_mem_nil, or_false] at hx
    rcases hx with rfl | rfl
    · exact .im _
    · exact .im _) ?_ H
  have h := nput_ct G hG n hn v
  generalize nput n v = z at h ⊢
  refine stCall2 Go.Proofs.Tryd.func24 rfl (by decide) ?_
  conv => whnf
  refine Call2.mono (h _) fun r0 H0 h => ?_
  obtain ⟨h1, h2⟩ := h
  rw [h1, h2]
  clear h1 h2 r0 H0
  conv => whnf
  exact ⟨.str _, rfl⟩

def pbH (h : Hd) (t : List UInt8) : Heap := [some (.cells 27 (hdcells h)), some (.cells 65 [.fn (.func 24) [] []]), some (.cells 9 [.str t]), some (.cells 69 (hdcells h))]
theorem bw_fn {n : Nat} (t : TypeId) (f : Fn) : BW n (some (.cells t [.fn f [] []])) (some (.cells t [.fn f [] []])) := .free fun v hv => by
  obtain rfl := List.mem_singleton.1 hv
  exact .fn _ _ _ (fun v h => by cases h) (fun v h => by cases h)
theorem pbH_bws (h : Hd) (t : List UInt8) : BWs 4 (pbH h t) (pbH h t) := .cons (bw_hd _ _) (.cons (bw_fn _ _) (.cons (bw_str _ _) (.cons (bw_hd _ _) (.nil _))))

set_option maxHeartbeats 4000000 in
theorem pbytes_ct (G : Nat → Option (List V)) (hG : G 0 = some wV) (h : Hd) (hs : ∀ v ∈ h.2.2.2, v.2.length ≤ maxBytes) (hr : hRight h = 0) (H : Heap) :
    Call2 Go.Proofs.Tryd.prog G 12 [.agg (hdcells h)] H fun r H' => H' = H ∧ r = .tup [.str (hBytes h), .int .i64 0] := by
  refine Call2.free (fun x hx => by
    simp only [List.mem_cons, List.not_mem_nil, or_false] at hx
    rcases hx with rfl
    exact hdcells_free _) ?_ H
  have hrt := hright_ct G hG h (fun v hv => le_maxStr (hs v hv))
  rw [hr] at hrt
  have hpf : pForm h = 0 := by
    unfold hRight at hr
    split at hr
    · cases hr
    · rename_i hn; simpa using hn
  obtain ⟨hcnt, hc60, _⟩ := pForm_vals h hpf
  have hle := pIdx_len h.2.2.1
  have hlen := pItems_len h.2.2.1
  have hBl := hBytes_len hs
  obtain ⟨T, hT⟩ : ∃ T, hBytes h = T := ⟨_, rfl⟩
  rw [hT] at hBl ⊢
  unfold hBytes at hT
  have he := each_ct G h
  have hi := each1_ct G h 3
  obtain ⟨c, z, fl, l⟩ := h
  simp only at hs hcnt hc60 hle hlen hT he hi hrt
  subst hc60
  have hmb : maxBytes = 140737488355328 := by decide
  have hw60 : IntKind.u64.wrap 60 = 60 := by decide
  have hp1 := pput_ct G hG 2 (by decide) 60
  have hp2 := pput_ct G hG 2 (by decide) 0
  have hp3 := pput_ct G hG 8 (by decide) z
  have hp4 := pput_ct G hG 2 (by decide) fl
  have hl1 := nput_lenC 2 60
  have hl2 := nput_lenC 2 0
  have hl3 := nput_lenC 8 z
  have hl4 := nput_lenC 2 fl
  generalize (nput 2 60).1 = t1 at *
  generalize (nput 2 0).1 = t2 at *
  generalize (nput 8 z).1 = t3 at *
  generalize (nput 2 fl).1 = t4 at *
  refine stCall2 Go.Proofs.Tryd.func12 rfl (by decide) ?_
  conv => whnf
  refine Call2.mono (hrt _) fun r0 H0 h => ?_
  obtain ⟨h1, h2⟩ := h
  rw [h1, h2]
  clear h1 h2 r0 H0
  conv => whnf
  intro hw
  refine wpc_drawG2 [18, 19] [] [] (by rfl) (by kernel_rfl) (by kernel_rfl) hw ?_
  conv => whnf
  refine ⟨_, fun X _ => hp1 _, ?_⟩
  conv => whnf
  refine ⟨_, fun X _ => hp2 _, ?_⟩
  conv => whnf
  refine ⟨show ((t1.length + t2.length : Nat) : Int) ≤ 9223372036854775807 by omega, ?_⟩
  conv => whnf
  refine ⟨_, fun X _ => hp3 _, ?_⟩
  conv => whnf
  refine ⟨show (((t1 ++ t2).length + t3.length : Nat) : Int) ≤ 9223372036854775807 by rw [List.length_append]; omega, ?_⟩
  conv => whnf
  refine ⟨_, fun X _ => hp4 _, ?_⟩
  conv => whnf
  refine ⟨show (((t1 ++ t2 ++ t3).length + t4.length : Nat) : Int) ≤ 9223372036854775807 by rw [List.length_append, List.length_append]; omega, ?_⟩
  conv => whnf
  refine Call2.mono (he _) fun r0 H0 h => ?_
  obtain ⟨h1, h2⟩ := h
  rw [h1, h2]
  clear h1 h2 r0 H0
  conv => whnf
  intro hw
  refine WPc.weak (σ0 := (headS 80 ([.bad, .ptr 0 0, .bad, .bad, .bad, .ptr 1 0, .ptr 2 0] ++ List.replicate 30 .bad ++ [.fn (.func 36) [] [.ptr 3 0]] ++ List.replicate 42 .bad) (pbH (60, z, fl, l) (t1 ++ t2 ++ t3 ++ t4)) [] none).st) ?_ (Nat.le_of_ble_eq_true rfl) ?_
  · exact weak2 hw rfl ⟨.ptr 0 0 (show 0 < 4 by decide), .ptr 1 0 (show 1 < 4 by decide), .ptr 2 0 (show 2 < 4 by decide), fn36_vw (show 3 < 4 by decide), trivial⟩ (pbH_bws _ _) (fun id hid => by cases hid) rfl (fun id hid => by cases hid)
  clear hw
  refine wpc_rangeIter2 hi (Nat.le_refl 80) rfl rfl fnOk36 (fun i H' => ∃ t, H' = pbH (60, z, fl, l) t ∧ t ++ goP ((pIdx fl).drop i) (l.drop i) = T) ⟨_, rfl, hT⟩ ?_ ?_ ?_ ?_ ?_
  · rintro i H' ⟨t, rfl, _⟩; rfl
  · rintro i H' ⟨t, rfl, _⟩; rfl
  · intro x hx
    obtain ⟨y, _, rfl⟩ := List.mem_map.1 hx
    rfl
  · rintro i x H' hx ⟨t, rfl, hgo⟩ hl hs'
    obtain ⟨j, hj, rfl, hj14⟩ := pItems_get hx
    obtain ⟨hlet, hc4⟩ := pLet_at hj14
    have hpl : (pIdx fl).length = l.length := hcnt
    have hil : i < l.length := by rw [← hpl]; exact (List.getElem?_eq_some_iff.1 hj).1
    obtain ⟨v, hv⟩ : ∃ v, l[i]? = some v := ⟨_, List.getElem?_eq_getElem hil⟩
    have hgv : (vals l)[Int.toNat (i : Int)]? = some (vcells v) := vals_get hv
    have hgl : pLet[Int.toNat (j : Int)]? = some (pLet.getD j 0) := hlet
    have hd1 : (pIdx fl).drop i = j :: (pIdx fl).drop (i + 1) := by
      rw [List.drop_eq_getElem_cons (by omega), (List.getElem?_eq_some_iff.1 hj).2]
    have hd2 : l.drop i = v :: l.drop (i + 1) := by
      rw [List.drop_eq_getElem_cons hil, (List.getElem?_eq_some_iff.1 hv).2]
    rw [hd1, hd2, goP, ← List.append_assoc] at hgo
    generalize pLet.getD j 0 = b at *
    have hvs := hs v (List.mem_of_getElem? hv)
    have htl : t.length + (layP b v).length ≤ 14 + 14 * (8 + maxBytes) := by
      have := congrArg List.length hgo
      rw [List.length_append, List.length_append] at this
      omega
    conv => whnf
    refine ⟨rfl, rfl, ?_⟩
    conv => whnf
    refine optK_intro hgv ?_
    conv => whnf
    refine Call2.mono (letters_ct G _) fun r0 H0 h => ?_
    obtain ⟨h1, h2⟩ := h
    rw [h1, h2]
    clear h1 h2 r0 H0
    conv => whnf
    refine optK_intro hgl ?_
    conv => whnf
    rcases hc4 with rfl | rfl | rfl | rfl
    · have hly : layP 83 v = (layS 1 v.2).1 := rfl
      rw [hly] at hgo htl
      conv => whnf
      refine Call2.mono (short_ct G hG v.2 hvs _) fun r0 H0 h => ?_
      obtain ⟨h1, h2⟩ := h
      rw [h1, h2]
      clear h1 h2 r0 H0
      conv => whnf
      refine ⟨show ((t.length + (layS 1 v.2).1.length : Nat) : Int) ≤ 9223372036854775807 by omega, ?_⟩
      conv => whnf
      refine ⟨pbH (60, z, fl, l) _, [some (.cells 41 (vcells v))], rfl, rfl, ?_, _, rfl, hgo⟩
      intro id b hb
      have hb := List.mem_of_getElem? hb
      simp only [pbH, List.mem_cons, Option.some.injEq, List.not_mem_nil, or_false] at hb
      rcases hb with rfl | rfl | rfl | rfl
      · exact .inr (bw_hd _ _)
      · exact .inr (bw_fn _ _)
      · exact .inr (bw_str _ _)
      · exact .inr (bw_hd _ _)
    · have hly : layP 84 v = v.2 := rfl
      rw [hly] at hgo htl
      conv => whnf
      refine ⟨show ((t.length + v.2.length : Nat) : Int) ≤ 9223372036854775807 by omega, ?_⟩
      conv => whnf
      refine ⟨pbH (60, z, fl, l) _, [some (.cells 41 (vcells v))], rfl, rfl, ?_, _, rfl, hgo⟩
      intro id b hb
      have hb := List.mem_of_getElem? hb
      simp only [pbH, List.mem_cons, Option.some.injEq, List.not_mem_nil, or_false] at hb
      rcases hb with rfl | rfl | rfl | rfl
      · exact .inr (bw_hd _ _)
      · exact .inr (bw_fn _ _)
      · exact .inr (bw_str _ _)
      · exact .inr (bw_hd _ _)
    · have hly : layP 111 v = (nput 1 v.1).1 := rfl
      rw [hly] at hgo htl
      conv => whnf
      intro hwD
      refine wpc_draw2 5 (by rfl) (by decide) (by kernel_rfl) hwD ?_
      conv => whnf
      refine ⟨_, fun X _ => pput_ct G hG 1 (by decide) v.1 _, ?_⟩
      conv => whnf
      refine ⟨show ((t.length + (nput 1 v.1).1.length : Nat) : Int) ≤ 9223372036854775807 by omega, ?_⟩
      conv => whnf
      refine ⟨pbH (60, z, fl, l) _, [some (.cells 41 (vcells v))], rfl, rfl, ?_, _, rfl, hgo⟩
      intro id b hb
      have hb := List.mem_of_getElem? hb
      simp only [pbH, List.mem_cons, Option.some.injEq, List.not_mem_nil, or_false] at hb
      rcases hb with rfl | rfl | rfl | rfl
      · exact .inr (bw_hd _ _)
      · exact .inr (bw_fn _ _)
      · exact .inr (bw_str _ _)
      · exact .inr (bw_hd _ _)
    · have hly : layP 113 v = (nput 8 v.1).1 := rfl
      rw [hly] at hgo htl
      conv => whnf
      intro hwD
      refine wpc_draw2 5 (by rfl) (by decide) (by kernel_rfl) hwD ?_
      conv => whnf
      refine ⟨_, fun X _ => pput_ct G hG 8 (by decide) v.1 _, ?_⟩
      conv => whnf
      refine ⟨show ((t.length + (nput 8 v.1).1.length : Nat) : Int) ≤ 9223372036854775807 by omega, ?_⟩
      conv => whnf
      refine ⟨pbH (60, z, fl, l) _, [some (.cells 41 (vcells v))], rfl, rfl, ?_, _, rfl, hgo⟩
      intro id b hb
      have hb := List.mem_of_getElem? hb
      simp only [pbH, List.mem_cons, Option.some.injEq, List.not_mem_nil, or_false] at hb
      rcases hb with rfl | rfl | rfl | rfl
      · exact .inr (bw_hd _ _)
      · exact .inr (bw_fn _ _)
      · exact .inr (bw_str _ _)
      · exact .inr (bw_hd _ _)
  · rintro H' ⟨t, rfl, hgo⟩
    have hpl : (pIdx fl).length = l.length := hcnt
    have hpi : (pItems fl).length = l.length := by rw [hlen, hcnt]
    have : (pIdx fl).drop (pItems fl).length = [] := List.drop_of_length_le (by omega)
    have hnil : ∀ x, goP [] x = [] := fun x => by cases x <;> rfl
    rw [this, hnil, List.append_nil] at hgo
    subst hgo
    conv => whnf
    exact ⟨free_tup2 (.str _) (.im _), rfl⟩
end Go.Abs.Sig

/-! CA8 -/
namespace Go.Abs.Sig
open Go.RowKit Go.Abs
set_option linter.unusedSimpArgs false
set_option linter.unusedVariables false
set_option maxRecDepth 8000
attribute [local irreducible] StCall StYield WPc Weak IterOf Lp2

/-! ### frames -/
abbrev Frm := Int × Int × List UInt8
def frR (l : List Frm) : List (List V) := l.map fun f => [.int .i64 f.1, .int .i64 f.2.1, .str f.2.2]
theorem frR_app (a b : List Frm) : frR (a ++ b) = frR a ++ frR b := by simp [frR]
theorem frR_len (a : List Frm) : (frR a).length = a.length := by simp [frR]
def mostF (most : Int) : Int := min (max most 4096) 131072 - 8
theorem mostF_rng (most : Int) : 4088 ≤ mostF most ∧ mostF most ≤ 131064 := by unfold mostF; omega
/-- The frames ahead of the body's. -/
def frHead (c : Cm) (ch : Int) : List Frm := (1, ch, (mbytes tbv c.1).1) :: if content c.1.1 c.1.2.1 = true then [(2, ch, hBytes c.2.1)] else []
def frBody (c : Cm) (ch : Int) (m : Nat) : List Frm := (cutF c.2.2.length m c.2.2).map fun p => (3, ch, p)
def framesF (c : Cm) (ch most : Int) : List Frm × Int :=
  if cRight c ≠ 0 then ([], cRight c)
  else if ch < 1 ∨ 65535 < ch then ([], 1)
  else if (frHead c ch).all (fun f => decide ((f.2.2.length : Int) ≤ mostF most)) = true then (frHead c ch ++ frBody c ch (mostF most).toNat, 0)
  else ([], 4)
def frV (x : List Frm × Int) : V := .tup [.dat 3 (frR x.1) .no, .int .i64 x.2]
theorem frV_free (x : List Frm × Int) : (frV x).Free := free_tup2 (.dat _ _ _ (by simp)) (.im _)
theorem vw_fr {n es : Nat} {fl : Fl} {l : List Frm} {e : Int} (h : es = 3 ∨ l = []) : VW n (.tup [.dat es (frR l) fl, .int .i64 e]) (frV (l, e)) := by
  refine .tup _ _ rfl fun j v v' h1 h2 => ?_
  match j, h1, h2 with
  | 0, h1, h2 =>
    cases h1; cases h2
    rcases h with rfl | rfl
    · exact .no _ _ _
    · exact .nil _ _ _ _ (.inr (.inl rfl))
  | 1, h1, h2 => cases h1; cases h2; exact .im _
  | j + 2, h1, h2 => simp at h1

theorem cutF_le {n : Nat} : ∀ (f : Nat) (s p : List UInt8), p ∈ cutF f n s → p.length ≤ n ∧ p.length ≤ s.length
  | 0, _, _, h => by cases h
  | f + 1, s, p, h => by
    rw [cutF] at h
    split at h
    · cases h
    · rcases List.mem_cons.1 h with rfl | h
      · rw [List.length_take]; omega
      · have := cutF_le f _ _ h
        rw [List.length_drop] at this
        omega
theorem cutF_few {n : Nat} : ∀ (f : Nat) (s : List UInt8), (cutF f n s).length ≤ f
  | 0, _ => Nat.le_refl _
  | f + 1, s => by
    rw [cutF]
    split
    · simp
    · have := cutF_few (n := n) f (s.drop n)
      simp only [List.length_cons]
      omega

def fmT (ps : List (List UInt8)) (i : Nat) : List V := List.replicate 9 .bad ++ [.ptr 3 0, .fn (.func 9) [] [.ptr 3 0, .ptr 1 0, .ptr 2 0]] ++ List.replicate 56 .bad ++ [.dat 1 (strR ps) .no, .im (.int .i64 (ps.length : Int)), .im (.int .i64 (i : Int))] ++ List.replicate 9 .bad
def fmH (c : Cm) (ch : Int) (m : Nat) (l : List Frm) : Heap := [some (.cells 29 (ccells c)), some (.cells 3 [.im (.int .i64 ch)]), some (.cells 3 [.im (.int .i64 (m : Int))]), some (.cells 31 [.dat 3 (frR l) (.cls 14)])]
def fmS (c : Cm) (ch : Int) (m : Nat) (ps : List (List UInt8)) (l : List Frm) (i : Nat) : S2 := headS 79 (fmT ps i) (fmH c ch m l) [] none
theorem fn9_vw {n : Nat} (h : 3 < n) : VW n (.fn (.func 9) [] [.ptr 3 0, .ptr 1 0, .ptr 2 0]) (.fn (.func 9) [] [.ptr 3 0, .ptr 1 0, .ptr 2 0]) := .fn _ _ _ (fun i v h => by simp at h) (fun i v hv => by
  have hv := List.mem_of_getElem? hv
  simp only [List.mem_cons, List.not_mem_nil, or_false] at hv
  rcases hv with rfl | rfl | rfl
  · exact .ptr 3 0 h
  · exact .ptr 1 0 (by omega)
  · exact .ptr 2 0 (by omega))
theorem fmH_bws (c : Cm) (ch : Int) (m : Nat) (l : List Frm) : BWs 4 (fmH c ch m l) (fmH c ch m l) := .cons (.free (ccells_free' c)) (.cons (bw_im _ _) (.cons (bw_im _ _) (.cons (bw_dat _ _ _ _) (.nil _))))

theorem cRight_body {c : Cm} (h : cRight c = 0) : c.2.2.length ≤ 65536 ∧ mright tbv c.1 = 0 ∧ (content c.1.1 c.1.2.1 = true → hRight c.2.1 = 0) := by
  unfold cRight at h
  split at h
  · rename_i hn; exact absurd h hn
  · rename_i hn
    refine ⟨?_, by simpa using hn, fun hc => ?_⟩
    · split at h
      · split at h
        · cases h
        · rename_i h2
          simp only [not_or, Classical.not_not] at h2
          rw [h2.2]
          exact Nat.zero_le _
      · split at h
        · rename_i h2; exact absurd h h2
        · rename_i h2
          split at h
          · cases h
          · rename_i h3
            have h2' : hRight c.2.1 = 0 := by simpa using h2
            unfold hRight at h2'
            split at h2'
            · cases h2'
            · split at h2'
              · cases h2'
              · omega
    · rw [if_neg (by rw [hc]; decide)] at h
      split at h
      · rename_i h2; exact absurd h h2
      · rename_i h2; simpa using h2

set_option maxHeartbeats 8000000 in
theorem frames_ct (G : Nat → Option (List V)) (hG : G 0 = some wV) (c : Cm) (hc : CmS c) (ch most : Int) (H : Heap) : Call2 Go.Proofs.Tryd.prog G 6 [.agg (ccells c), .int .i64 ch, .int .i64 most] H fun r H' => H' = H ∧ r = frV (framesF c ch most) := by
  refine Call2.free (fun x hx => by
    simp only [List.mem_cons, List.not_mem_nil, or_false] at hx
    rcases hx with rfl | rfl | rfl
    · exact ccells_free _
    · exact .im _
    · exact .im _) ?_ H
  refine Call2.weakR ?_
  have h1 := cright_ct G hG c hc
  have h2 := mbytes_ct G hG tbv c.1 (fun _ => tbOk G hG) hc.1
  have h3 := content_ct G c.1.1 c.1.2.1
  have h4 := pbytes_ct G hG c.2.1 hc.2.1
  have hcr := @cRight_body c
  have hM := mostF_rng most
  unfold framesF frHead frBody
  generalize cRight c = e at h1 hcr ⊢
  generalize mbytes tbv c.1 = mb at h2 ⊢
  generalize hBytes c.2.1 = hb at h4 ⊢
  generalize content c.1.1 c.1.2.1 = cn at h3 hcr ⊢
  obtain ⟨⟨a, b, l⟩, ⟨x, y, z, k⟩, s⟩ := c
  obtain ⟨m, em⟩ := mb
  simp only at h1 h2 h3 h4 hcr ⊢
  have hmo : IntKind.i64.wrap ((if (131072 : Int) < (if most < 4096 then 4096 else most) then 131072 else (if most < 4096 then 4096 else most)) - 8) = mostF most := by
    have : (if (131072 : Int) < (if most < 4096 then 4096 else most) then 131072 else (if most < 4096 then 4096 else most)) - 8 = mostF most := by
      unfold mostF
      split <;> split <;> omega
    rw [this, wrap_i64 (by omega) (by omega)]
  obtain ⟨M, hMe⟩ : ∃ M : Nat, mostF most = (M : Int) := ⟨(mostF most).toNat, by omega⟩
  rw [hMe] at hmo hM ⊢
  rw [Int.toNat_natCast]
  refine stCall2 Go.Proofs.Tryd.func6 rfl (by decide) ?_
  conv => whnf
  intro hws
  refine wpc_scope2 hws ?_
  clear hws
  conv => whnf
  refine Call2.mono (h1 _) fun r0 H0 h => ?_
  obtain ⟨h1, h2⟩ := h
  rw [h1, h2]
  clear h1 h2 r0 H0
  conv => whnf
  by_cases he : e ≠ 0
  · refine br_t (decide_eq_true he) ?_
    rw [if_pos he]
    conv => whnf
    exact ⟨_, vw_fr (l := []) (.inr rfl), frV_free _, rfl⟩
  refine br_f (decide_eq_false he) ?_
  rw [if_neg he]
  obtain ⟨hsl, _, hcn⟩ := hcr (by simpa using he)
  conv => whnf
  by_cases hch1 : ch < 1
  · refine br_t (decide_eq_true hch1) ?_
    rw [if_pos (.inl hch1)]
    conv => whnf
    exact ⟨_, vw_fr (l := []) (.inr rfl), frV_free _, rfl⟩
  refine br_f (decide_eq_false hch1) ?_
  conv => whnf
  by_cases hch2 : 65535 < ch
  · refine br_t (show bsel false true (decide ((65535 : Int) < ch)) = true from decide_eq_true hch2) ?_
    rw [if_pos (.inr hch2)]
    conv => whnf
    exact ⟨_, vw_fr (l := []) (.inr rfl), frV_free _, rfl⟩
  refine br_f (show bsel false true (decide ((65535 : Int) < ch)) = false from decide_eq_false hch2) ?_
  rw [if_neg (fun h => h.elim hch1 hch2)]
  conv => whnf
  rw [hmo]
  conv => whnf
  refine Call2.mono (h2 _) fun r0 H0 h => ?_
  obtain ⟨h1, h2⟩ := h
  rw [h1, h2]
  clear h1 h2 r0 H0
  conv => whnf
  refine stCall2 Go.Proofs.Tryd.func9 rfl (by decide) ?_
  conv => whnf
  refine ⟨.inl rfl, .inr rfl, ?_, Nat.le_of_ble_eq_true rfl, Nat.le_of_ble_eq_true rfl, ?_⟩
  · intro r hr
    obtain rfl := List.mem_singleton.1 hr
    rfl
  conv => whnf
  refine Call2.mono (h3 _) fun r0 H0 h => ?_
  obtain ⟨h1, h2⟩ := h
  rw [h1, h2]
  clear h1 h2 r0 H0
  conv => whnf
  have hcut := cut_ct G s (M : Int) (by omega)
  rw [show (max (M : Int) 1).toNat = M by omega] at hcut
  have hpl := fun p => @cutF_le M s.length s p
  have hfew := cutF_few (n := M) s.length s
  generalize cutF s.length M s = ps at hcut hpl hfew ⊢
  have hsm : M ≤ 131064 := by omega
  cases cn with
  | false =>
    rw [if_neg (show ¬ ((false : Bool) = true) by decide)]
    obtain ⟨hd, hhd⟩ : ∃ hd : List Frm, hd = [(1, ch, m)] := ⟨_, rfl⟩
    have hrw : frR hd = [[.int .i64 1, .int .i64 ch, .str m]] := by rw [hhd]; rfl
    have hhl : hd.length ≤ 2 := by rw [hhd]; simp
    rw [← hhd]
    conv => whnf
    by_cases hm : (m.length : Int) ≤ (M : Int)
    · have hall : hd.all (fun f => decide ((f.2.2.length : Int) ≤ (M : Int))) = true := by rw [hhd]; simp; omega
      rw [if_pos hall]
      simp only [decide_eq_true hm]
      conv => whnf
      refine Call2.mono (hcut _) fun r0 H0 h => ?_
      obtain ⟨h1, h2⟩ := h
      rw [h1, h2]
      clear h1 h2 r0 H0
      conv => whnf
      intro hw
      refine wpc_loop2 (fun n1 s1 => ∃ i : Nat, i ≤ ps.length ∧ n1 = ps.length - i ∧ s1 = fmS ((a, b, l), (x, y, z, k), s) ch M ps (hd ++ (ps.take i).map fun p => (3, ch, p)) i) ps.length (fmS ((a, b, l), (x, y, z, k), s) ch M ps hd 0) ?_ ⟨0, Nat.zero_le _, rfl, by simp⟩ ?_ ?_
      · refine weak2 hw rfl ⟨.ptr 3 0 (show 3 < 4 by decide), fn9_vw (show 3 < 4 by decide), .dat _ _ _, .int (by rw [strR_len]), .im _, trivial⟩ ?_ (fun id hid => by cases hid) rfl (fun id hid => by cases hid)
        unfold fmH
        rw [hrw]
        exact .cons (.free (ccells_free' ((a, b, l), (x, y, z, k), s))) (.cons (bw_im _ _) (.cons (bw_im _ _) (.cons (bw_dat _ _ _ _) (.nil _))))
      · rintro n1 s1 ⟨i, _, _, rfl⟩
        exact ⟨⟨Nat.le_refl 79, fun x hx => by cases hx⟩, rfl, Nat.le_refl _, rfl⟩
      rintro n1 s1 ⟨i, hi, rfl, rfl⟩
      by_cases hil : i < ps.length
      · obtain ⟨p, hp⟩ : ∃ p, ps[i]? = some p := ⟨_, List.getElem?_eq_getElem hil⟩
        have hgp : (strR ps)[Int.toNat (i : Int)]? = some [.str p] := by
          show (strR ps)[i]? = _
          unfold strR
          rw [List.getElem?_map, hp]
          rfl
        have hd0 : (true && true && decide ((0 : Int) ≤ (i : Int))) = true := by simp
        have hwi : IntKind.i64.wrap ((i : Int) + 1) = ((i + 1 : Nat) : Int) := by rw [wrap_i64 (by omega) (by omega)]; rfl
        have hpm := (hpl p (List.mem_of_getElem? hp)).1
        have htk : hd ++ (ps.take (i + 1)).map (fun p => ((3, ch, p) : Frm)) = (hd ++ (ps.take i).map fun p => (3, ch, p)) ++ [(3, ch, p)] := by
          rw [List.take_add_one, hp]
          simp
        have hll : (hd ++ (ps.take i).map (fun p => ((3, ch, p) : Frm))).length ≤ 65538 := by
          rw [List.length_append, List.length_map, List.length_take]
          omega
        have hfl := frR_len (hd ++ (ps.take i).map (fun p => ((3, ch, p) : Frm)))
        have hap : frR (hd ++ (ps.take (i + 1)).map (fun p => ((3, ch, p) : Frm))) = frR (hd ++ (ps.take i).map fun p => (3, ch, p)) ++ [[.int .i64 3, .int .i64 ch, .str p]] := by rw [htk, frR_app]; rfl
        obtain ⟨l3, hl3⟩ : ∃ l3, hd ++ (ps.take (i + 1)).map (fun p => ((3, ch, p) : Frm)) = l3 := ⟨_, rfl⟩
        rw [hl3] at hap
        generalize hd ++ (ps.take i).map (fun p => ((3, ch, p) : Frm)) = l2 at hll hfl hap ⊢
        conv => whnf
        refine br_t (decide_eq_true (by omega)) ?_
        conv => whnf
        refine grd_intro hd0 (optK_intro hgp ?_)
        conv => whnf
        refine stCall2 Go.Proofs.Tryd.func9 rfl (by decide) ?_
        conv => whnf
        refine ⟨.inr rfl, .inr rfl, ?_, ?_, ?_, ?_⟩
        · intro r hr
          obtain rfl := List.mem_singleton.1 hr
          rfl
        · show ((frR l2).length + 1) * 32 ≤ 140737488355328
          omega
        · show (frR l2).length + 1 ≤ 140737488355328
          omega
        conv => whnf
        refine br_f (show (!decide ((p.length : Int) ≤ (M : Int))) = false by rw [decide_eq_true (by omega)]; rfl) ?_
        conv => whnf
        intro hw2
        refine ⟨ps.length - (i + 1), fmS ((a, b, l), (x, y, z, k), s) ch M ps l3 (i + 1), by omega, ?_, i + 1, by omega, rfl, by rw [hl3]⟩
        refine weak2 hw2 rfl ⟨.ptr 3 0 (show 3 < 4 by decide), fn9_vw (show 3 < 4 by decide), .dat _ _ _, .im _, .int hwi, trivial⟩ ?_ (fun id hid => by cases hid) rfl (fun id hid => by cases hid)
        unfold fmH
        rw [hap]
        exact .cons (.free (ccells_free' ((a, b, l), (x, y, z, k), s))) (.cons (bw_im _ _) (.cons (bw_im _ _) (.cons (bw_dat _ _ _ _) (.nil _))))
      · have hie : i = ps.length := by omega
        subst hie
        rw [List.take_length]
        conv => whnf
        refine br_f (decide_eq_false (by omega)) ?_
        conv => whnf
        exact ⟨_, vw_fr (.inl rfl), frV_free _, rfl⟩
    · have hall : ¬ hd.all (fun f => decide ((f.2.2.length : Int) ≤ (M : Int))) = true := by rw [hhd]; simp; omega
      rw [if_neg hall]
      simp only [decide_eq_false hm]
      conv => whnf
      exact ⟨_, vw_fr (l := []) (.inr rfl), frV_free _, rfl⟩
  | true =>
    rw [if_pos rfl]
    obtain ⟨hd, hhd⟩ : ∃ hd : List Frm, hd = [(1, ch, m), (2, ch, hb)] := ⟨_, rfl⟩
    have hrw : frR hd = [[.int .i64 1, .int .i64 ch, .str m], [.int .i64 2, .int .i64 ch, .str hb]] := by rw [hhd]; rfl
    have hhl : hd.length ≤ 2 := by rw [hhd]; simp
    rw [← hhd]
    have h4 := h4 (hcn rfl)
    conv => whnf
    refine Call2.mono (h4 _) fun r0 H0 h => ?_
    obtain ⟨h1, h2⟩ := h
    rw [h1, h2]
    clear h1 h2 r0 H0
    conv => whnf
    refine stCall2 Go.Proofs.Tryd.func9 rfl (by decide) ?_
    conv => whnf
    refine ⟨.inr rfl, .inr rfl, ?_, Nat.le_of_ble_eq_true rfl, Nat.le_of_ble_eq_true rfl, ?_⟩
    · intro r hr
      obtain rfl := List.mem_singleton.1 hr
      rfl
    conv => whnf
    by_cases hm2 : (hb.length : Int) ≤ (M : Int)
    · simp only [decide_eq_true hm2]
      conv => whnf
      by_cases hm : (m.length : Int) ≤ (M : Int)
      · have hall : hd.all (fun f => decide ((f.2.2.length : Int) ≤ (M : Int))) = true := by rw [hhd]; simp; omega
        rw [if_pos hall]
        simp only [decide_eq_true hm]
        conv => whnf
        refine Call2.mono (hcut _) fun r0 H0 h => ?_
        obtain ⟨h1, h2⟩ := h
        rw [h1, h2]
        clear h1 h2 r0 H0
        conv => whnf
        intro hw
        refine wpc_loop2 (fun n1 s1 => ∃ i : Nat, i ≤ ps.length ∧ n1 = ps.length - i ∧ s1 = fmS ((a, b, l), (x, y, z, k), s) ch M ps (hd ++ (ps.take i).map fun p => (3, ch, p)) i) ps.length (fmS ((a, b, l), (x, y, z, k), s) ch M ps hd 0) ?_ ⟨0, Nat.zero_le _, rfl, by simp⟩ ?_ ?_
        · refine weak2 hw rfl ⟨.ptr 3 0 (show 3 < 4 by decide), fn9_vw (show 3 < 4 by decide), .dat _ _ _, .int (by rw [strR_len]), .im _, trivial⟩ ?_ (fun id hid => by cases hid) rfl (fun id hid => by cases hid)
          unfold fmH
          rw [hrw]
          exact .cons (.free (ccells_free' ((a, b, l), (x, y, z, k), s))) (.cons (bw_im _ _) (.cons (bw_im _ _) (.cons (bw_dat _ _ _ _) (.nil _))))
        · rintro n1 s1 ⟨i, _, _, rfl⟩
          exact ⟨⟨Nat.le_refl 79, fun x hx => by cases hx⟩, rfl, Nat.le_refl _, rfl⟩
        rintro n1 s1 ⟨i, hi, rfl, rfl⟩
        by_cases hil : i < ps.length
        · obtain ⟨p, hp⟩ : ∃ p, ps[i]? = some p := ⟨_, List.getElem?_eq_getElem hil⟩
          have hgp : (strR ps)[Int.toNat (i : Int)]? = some [.str p] := by
            show (strR ps)[i]? = _
            unfold strR
            rw [List.getElem?_map, hp]
            rfl
          have hd0 : (true && true && decide ((0 : Int) ≤ (i : Int))) = true := by simp
          have hwi : IntKind.i64.wrap ((i : Int) + 1) = ((i + 1 : Nat) : Int) := by rw [wrap_i64 (by omega) (by omega)]; rfl
          have hpm := (hpl p (List.mem_of_getElem? hp)).1
          have htk : hd ++ (ps.take (i + 1)).map (fun p => ((3, ch, p) : Frm)) = (hd ++ (ps.take i).map fun p => (3, ch, p)) ++ [(3, ch, p)] := by
            rw [List.take_add_one, hp]
            simp
          have hll : (hd ++ (ps.take i).map (fun p => ((3, ch, p) : Frm))).length ≤ 65538 := by
            rw [List.length_append, List.length_map, List.length_take]
            omega
          have hfl := frR_len (hd ++ (ps.take i).map (fun p => ((3, ch, p) : Frm)))
          have hap : frR (hd ++ (ps.take (i + 1)).map (fun p => ((3, ch, p) : Frm))) = frR (hd ++ (ps.take i).map fun p => (3, ch, p)) ++ [[.int .i64 3, .int .i64 ch, .str p]] := by rw [htk, frR_app]; rfl
          obtain ⟨l3, hl3⟩ : ∃ l3, hd ++ (ps.take (i + 1)).map (fun p => ((3, ch, p) : Frm)) = l3 := ⟨_, rfl⟩
          rw [hl3] at hap
          generalize hd ++ (ps.take i).map (fun p => ((3, ch, p) : Frm)) = l2 at hll hfl hap ⊢
          conv => whnf
          refine br_t (decide_eq_true (by omega)) ?_
          conv => whnf
          refine grd_intro hd0 (optK_intro hgp ?_)
          conv => whnf
          refine stCall2 Go.Proofs.Tryd.func9 rfl (by decide) ?_
          conv => whnf
          refine ⟨.inr rfl, .inr rfl, ?_, ?_, ?_, ?_⟩
          · intro r hr
            obtain rfl := List.mem_singleton.1 hr
            rfl
          · show ((frR l2).length + 1) * 32 ≤ 140737488355328
            omega
          · show (frR l2).length + 1 ≤ 140737488355328
            omega
          conv => whnf
          refine br_f (show (!decide ((p.length : Int) ≤ (M : Int))) = false by rw [decide_eq_true (by omega)]; rfl) ?_
          conv => whnf
          intro hw2
          refine ⟨ps.length - (i + 1), fmS ((a, b, l), (x, y, z, k), s) ch M ps l3 (i + 1), by omega, ?_, i + 1, by omega, rfl, by rw [hl3]⟩
          refine weak2 hw2 rfl ⟨.ptr 3 0 (show 3 < 4 by decide), fn9_vw (show 3 < 4 by decide), .dat _ _ _, .im _, .int hwi, trivial⟩ ?_ (fun id hid => by cases hid) rfl (fun id hid => by cases hid)
          unfold fmH
          rw [hap]
          exact .cons (.free (ccells_free' ((a, b, l), (x, y, z, k), s))) (.cons (bw_im _ _) (.cons (bw_im _ _) (.cons (bw_dat _ _ _ _) (.nil _))))
        · have hie : i = ps.length := by omega
          subst hie
          rw [List.take_length]
          conv => whnf
          refine br_f (decide_eq_false (by omega)) ?_
          conv => whnf
          exact ⟨_, vw_fr (.inl rfl), frV_free _, rfl⟩
      · have hall : ¬ hd.all (fun f => decide ((f.2.2.length : Int) ≤ (M : Int))) = true := by rw [hhd]; simp; omega
        rw [if_neg hall]
        simp only [decide_eq_false hm]
        conv => whnf
        exact ⟨_, vw_fr (l := []) (.inr rfl), frV_free _, rfl⟩
    · have hall : ¬ hd.all (fun f => decide ((f.2.2.length : Int) ≤ (M : Int))) = true := by rw [hhd]; simp; omega
      rw [if_neg hall]
      simp only [decide_eq_false hm2]
      conv => whnf
      exact ⟨_, vw_fr (l := []) (.inr rfl), frV_free _, rfl⟩
end Go.Abs.Sig

/-! CA9 -/
namespace Go.Abs.Sig
open Go.RowKit Go.Abs
set_option linter.unusedSimpArgs false
set_option linter.unusedVariables false
set_option maxRecDepth 8000
attribute [local irreducible] StCall StYield WPc Weak IterOf Lp2

theorem cutF_mono : ∀ (f f' n n' : Nat) (s s' : List UInt8), 0 < n → n ≤ n' → s.length ≤ f → s'.length ≤ s.length → (cutF f' n' s').length ≤ (cutF f n s).length
  | _, 0, _, _, _, _, _, _, _, _ => by simp [cutF]
  | f, f' + 1, n, n', s, s', hn, hnn, hf, hs => by
    rw [cutF]
    split
    · simp
    · rename_i hne
      have hp : 0 < s'.length := List.length_pos_iff.2 hne
      obtain ⟨f, rfl⟩ : ∃ g, f = g + 1 := ⟨f - 1, by omega⟩
      have hs0 : s ≠ [] := List.length_pos_iff.1 (by omega)
      rw [cutF, if_neg hs0]
      have := cutF_mono f f' n n' (s.drop n) (s'.drop n') hn hnn (by rw [List.length_drop]; omega) (by simp only [List.length_drop]; omega)
      simp only [List.length_cons]
      omega
theorem cutF_ne {n : Nat} (hn : 0 < n) : ∀ (f : Nat) (s p : List UInt8), p ∈ cutF f n s → p ≠ []
  | 0, _, _, h => by cases h
  | f + 1, s, p, h => by
    rw [cutF] at h
    split at h
    · cases h
    · rename_i hne
      rcases List.mem_cons.1 h with rfl | h
      · have : 0 < s.length := List.length_pos_iff.2 hne
        exact List.length_pos_iff.1 (by rw [List.length_take]; omega)
      · exact cutF_ne hn f _ _ h
def sumL (l : List Frm) : Nat := (l.map fun f => f.2.2.length).sum
theorem cutF_sum {n : Nat} (hn : 0 < n) (ch : Int) : ∀ (f : Nat) (s : List UInt8), s.length ≤ f → sumL ((cutF f n s).map fun p => (3, ch, p)) = s.length
  | 0, s, h => by
    have : s = [] := List.eq_nil_of_length_eq_zero (by omega)
    subst this
    rfl
  | f + 1, s, h => by
    rw [cutF]
    split
    · rename_i hs; subst hs; rfl
    · rename_i hne
      have hp : 0 < s.length := List.length_pos_iff.2 hne
      have := cutF_sum hn ch f (s.drop n) (by rw [List.length_drop]; omega)
      unfold sumL at this ⊢
      rw [List.map_cons, List.map_cons, List.sum_cons, this]
      simp only [List.length_take, List.length_drop]
      omega

/-- What is known of a command's frames. -/
structure FrOk (c : Cm) (ch most : Int) (l : List Frm) : Prop where
  ch1 : 1 ≤ ch ∧ ch ≤ 65535
  all : ∀ (i : Nat) (f : Frm), l[i]? = some f → f.1 = min ((i : Int) + 1) 3 ∧ f.2.1 = ch ∧ (f.2.2.length : Int) ≤ mostF most ∧ (f.1 = 3 → f.2.2 ≠ [])
  sum : sumL (l.drop 2) = c.2.2.length
  few : l.length ≤ 65538
  body : c.2.2.length ≤ 65536

theorem frames_ok {c : Cm} {ch most : Int} {l : List Frm} (h : framesF c ch most = (l, 0)) : FrOk c ch most l := by
  unfold framesF at h
  split at h
  · rename_i he
    exact absurd (congrArg Prod.snd h) he
  rename_i he
  split at h
  · cases h
  rename_i hch
  split at h
  rotate_left
  · cases h
  rename_i hall
  have hl := congrArg Prod.fst h
  simp only at hl
  obtain ⟨hb, _, _⟩ := cRight_body (c := c) (by simpa using he)
  have hM := mostF_rng most
  obtain ⟨M, hMe⟩ : ∃ M : Nat, mostF most = (M : Int) := ⟨(mostF most).toNat, by omega⟩
  rw [hMe, Int.toNat_natCast] at hl
  rw [hMe] at hM hall
  have hcb : content c.1.1 c.1.2.1 = false → c.2.2 = [] := fun hc => by
    have he' : cRight c = 0 := by simpa using he
    unfold cRight at he'
    split at he'
    · rename_i hn; exact absurd he' hn
    · split at he'
      · cases he'
      · rename_i h2
        simp only [not_or, Classical.not_not] at h2
        exact h2.2
  have hsum := cutF_sum (n := M) (by omega) ch c.2.2.length c.2.2 (Nat.le_refl _)
  have hfew := cutF_few (n := M) c.2.2.length c.2.2
  have hne := cutF_ne (n := M) (by omega) c.2.2.length c.2.2
  have hle := fun p => @cutF_le M c.2.2.length c.2.2 p
  have hbm : ∀ f ∈ frBody c ch M, f.1 = 3 ∧ f.2.1 = ch ∧ (f.2.2.length : Int) ≤ (M : Int) ∧ f.2.2 ≠ [] := fun f hf => by
    unfold frBody at hf
    obtain ⟨p, hp, rfl⟩ := List.mem_map.1 hf
    exact ⟨rfl, rfl, by have := (hle p hp).1; simp only; omega, hne p hp⟩
  have hbl : (frBody c ch M).length = (cutF c.2.2.length M c.2.2).length := by unfold frBody; rw [List.length_map]
  have hal := fun f hf => of_decide_eq_true (List.all_eq_true.1 hall f hf)
  unfold frHead at hl hal
  cases hcn : content c.1.1 c.1.2.1 with
  | false =>
    have hb0 := hcb hcn
    have hB : frBody c ch M = [] := by unfold frBody; rw [hb0]; rfl
    rw [hcn, if_neg (by decide), hB, List.append_nil] at hl
    rw [hcn, if_neg (by decide)] at hal
    refine ⟨by omega, ?_, ?_, ?_, hb⟩
    · intro i f hf
      rw [← hl] at hf
      have hm := hal f (List.mem_of_getElem? hf)
      cases i with
      | zero =>
        simp at hf
        subst hf
        exact ⟨rfl, rfl, by rw [hMe]; exact hm, fun h => by cases h⟩
      | succ i => simp at hf
    · rw [← hl, hb0]; rfl
    · rw [← hl]; simp
  | true =>
    rw [hcn, if_pos rfl] at hl hal
    refine ⟨by omega, ?_, ?_, ?_, hb⟩
    · intro i f hf
      rw [← hl] at hf
      match i with
      | 0 =>
        have hm := hal f (by simp at hf; rw [← hf]; simp)
        simp at hf
        subst hf
        exact ⟨rfl, rfl, by rw [hMe]; exact hm, fun h => by cases h⟩
      | 1 =>
        have hm := hal f (by simp at hf; rw [← hf]; simp)
        simp at hf
        subst hf
        exact ⟨rfl, rfl, by rw [hMe]; exact hm, fun h => by cases h⟩
      | i + 2 =>
        have hf' : (frBody c ch M)[i]? = some f := by simpa using hf
        obtain ⟨h1, h2, h3, h4⟩ := hbm f (List.mem_of_getElem? hf')
        exact ⟨by rw [h1]; omega, h2, by rw [hMe]; exact h3, fun _ => h4⟩
    · rw [← hl]
      exact hsum
    · rw [← hl]
      simp only [List.length_append, List.length_cons, List.length_nil]
      omega
theorem frames_err {c : Cm} {ch most : Int} {l : List Frm} {e : Int} (h : framesF c ch most = (l, e)) (he : e ≠ 0) : l = [] ∧ (cRight c ≠ 0 ∨ ch < 1 ∨ 65535 < ch ∨ e = 4) := by
  unfold framesF at h
  split at h
  · rename_i h1
    have := congrArg Prod.fst h
    exact ⟨this.symm, .inl h1⟩
  split at h
  · rename_i h1
    have := congrArg Prod.fst h
    exact ⟨this.symm, .inr (h1.elim .inl fun h => .inr (.inl h))⟩
  split at h
  · exact absurd (congrArg Prod.snd h).symm he
  · have := congrArg Prod.fst h
    have h2 := congrArg Prod.snd h
    exact ⟨this.symm, .inr (.inr (.inr h2.symm))⟩
/-- A greater most. -/
theorem frames_more {c : Cm} {ch a b : Int} {l : List Frm} (h : framesF c ch a = (l, 0)) (hab : a ≤ b) : ∃ k, framesF c ch b = (k, 0) ∧ k.length ≤ l.length := by
  have hab' : mostF a ≤ mostF b := by unfold mostF; omega
  have hM := mostF_rng a
  unfold framesF at h ⊢
  split at h
  · rename_i he
    exact absurd (congrArg Prod.snd h) he
  rename_i he
  rw [if_neg he]
  split at h
  · cases h
  rename_i hch
  rw [if_neg hch]
  split at h
  rotate_left
  · cases h
  rename_i hall
  have hall2 : (frHead c ch).all (fun f => decide ((f.2.2.length : Int) ≤ mostF b)) = true := by
    rw [List.all_eq_true] at hall ⊢
    intro f hf
    have := of_decide_eq_true (hall f hf)
    exact decide_eq_true (by omega)
  rw [if_pos hall2]
  refine ⟨_, rfl, ?_⟩
  have hl := congrArg Prod.fst h
  simp only at hl
  rw [← hl]
  have := cutF_mono c.2.2.length c.2.2.length (mostF a).toNat (mostF b).toNat c.2.2 c.2.2 (by omega) (by omega) (Nat.le_refl _) (Nat.le_refl _)
  simp only [List.length_append, frBody, List.length_map]
  omega
end Go.Abs.Sig

/-! CA10 -/
namespace Go.Abs.Sig
open Go.RowKit Go.Abs
set_option linter.unusedSimpArgs false
set_option linter.unusedVariables false
set_option maxRecDepth 8000
attribute [local irreducible] StCall StYield WPc Weak IterOf Lp2

def fcells (f : Frm) : List V := [.int .i64 f.1, .int .i64 f.2.1, .str f.2.2]
theorem fcells_free (f : Frm) : (V.agg (fcells f)).Free := .agg _ fun v hv => by
  simp only [fcells, List.mem_cons, List.not_mem_nil, or_false] at hv
  rcases hv with rfl | rfl | rfl
  · exact .im _
  · exact .im _
  · exact .str _
theorem fright_ct (G : Nat → Option (List V)) (t ch : Int) (d : List UInt8) (ht : t = 1 ∨ t = 2 ∨ t = 3) (hc : 1 ≤ ch ∧ ch ≤ 65535) (hd : d.length ≤ 131072) (h3 : t = 3 → d ≠ []) (H : Heap) :
    Call2 Go.Proofs.Tryd.prog G 8 [.agg (fcells (t, ch, d))] H fun r H' => H' = H ∧ r = .bool true := by
  refine Call2.free (fun x hx => by
    simp only [List.mem_cons, List.not_mem_nil, or_false] at hx
    rcases hx with rfl
    exact fcells_free _) ?_ H
  have e1 : decide (ch < 0) = false := decide_eq_false (by omega)
  have e2 : decide ((65535 : Int) < ch) = false := decide_eq_false (by omega)
  have e3 : decide ((131072 : Int) < (d.length : Int)) = false := decide_eq_false (by omega)
  rcases ht with rfl | rfl | rfl
  · refine stCall2 Go.Proofs.Tryd.func8 rfl (by decide) ?_
    conv => whnf
    refine br_f (show bsel false true (decide (ch < 0)) = false from e1) ?_
    conv => whnf
    refine br_f (show bsel false true (decide ((65535 : Int) < ch)) = false from e2) ?_
    conv => whnf
    refine br_f (show bsel false true (decide ((131072 : Int) < (d.length : Int))) = false from e3) ?_
    conv => whnf
    exact ⟨.im _, rfl⟩
  · refine stCall2 Go.Proofs.Tryd.func8 rfl (by decide) ?_
    conv => whnf
    refine br_f (show bsel false true (decide (ch < 0)) = false from e1) ?_
    conv => whnf
    refine br_f (show bsel false true (decide ((65535 : Int) < ch)) = false from e2) ?_
    conv => whnf
    refine br_f (show bsel false true (decide ((131072 : Int) < (d.length : Int))) = false from e3) ?_
    conv => whnf
    exact ⟨.im _, rfl⟩
  · have hp : 0 < d.length := List.length_pos_iff.2 (h3 rfl)
    refine stCall2 Go.Proofs.Tryd.func8 rfl (by decide) ?_
    conv => whnf
    refine br_f (show bsel false true (decide (ch < 0)) = false from e1) ?_
    conv => whnf
    refine br_f (show bsel false true (decide ((65535 : Int) < ch)) = false from e2) ?_
    conv => whnf
    refine br_f (show bsel false true (decide ((131072 : Int) < (d.length : Int))) = false from e3) ?_
    conv => whnf
    refine ⟨.im _, ?_⟩
    rw [show decide ((0 : Int) < (d.length : Int)) = true from decide_eq_true (by omega)]
    rfl

def shM : Met := (60, 40, [(0, []), (0, []), (0, [113]), (0, []), (0, [])])
def shC : Cm := (shM, (60, 5000, 0, []), List.replicate 5000 0)
theorem shC_ok : ∃ a b, framesF shC 1 4096 = ([a, b, (3, 1, List.replicate 4088 0), (3, 1, List.replicate 912 0)], 0) := by
  have h1 : mright tbv shM = 0 := by kernel_rfl
  have h2 : content 60 40 = true := by kernel_rfl
  have h3 : hRight (60, 5000, 0, []) = 0 := by kernel_rfl
  have hr : cRight shC = 0 := by
    unfold cRight
    rw [if_neg (by show ¬ mright tbv shM ≠ 0; rw [h1]; decide), if_neg (by show ¬ content 60 40 = false; rw [h2]; decide), if_neg (by show ¬ hRight (60, 5000, 0, []) ≠ 0; rw [h3]; decide), if_neg]
    show ¬ (5000 : Int) ≠ ((List.replicate 5000 (0 : UInt8)).length : Int)
    rw [List.length_replicate]
    decide
  have hM : mostF 4096 = 4088 := by decide
  have hh : (frHead shC 1).all (fun f => decide ((f.2.2.length : Int) ≤ mostF 4096)) = true := by kernel_rfl
  have hhd : ∃ a b, frHead shC 1 = [a, b] := ⟨_, _, by unfold frHead; rw [show content shC.1.1 shC.1.2.1 = true from h2, if_pos rfl]⟩
  obtain ⟨a, b, hab⟩ := hhd
  have hB : frBody shC 1 4088 = [(3, 1, List.replicate 4088 0), (3, 1, List.replicate 912 0)] := by
    unfold frBody
    show (cutF (List.replicate 5000 (0 : UInt8)).length 4088 (List.replicate 5000 0)).map _ = _
    rw [List.length_replicate, show (5000 : Nat) = 4997 + 1 + 1 + 1 from rfl, cutF, if_neg (by simp), List.take_replicate, List.drop_replicate, cutF, if_neg (by simp), List.take_replicate, List.drop_replicate, cutF, if_pos (by simp)]
    rfl
  refine ⟨a, b, ?_⟩
  unfold framesF
  rw [if_neg (by rw [hr]; decide), if_neg (by decide), if_pos hh, hM, hab]
  show (_ ++ frBody shC 1 4088, (0 : Int)) = _
  rw [hB]
  rfl
theorem zeros_take : ((List.replicate 5000 [V.int .u8 0]).flatten).take 5000 = (List.replicate 5000 (0 : UInt8)).map fun b => V.int .u8 (b.toNat : Int) := by
  have h : ∀ n, (List.replicate n [V.int .u8 0]).flatten = List.replicate n (V.int .u8 0) := fun n => by
    induction n with
    | zero => rfl
    | succ n ih => rw [List.replicate_succ, List.flatten_cons, ih, List.replicate_succ]; rfl
  rw [h, List.take_of_length_le (by rw [List.length_replicate]; exact Nat.le_refl _), List.map_replicate]
  rfl
theorem vw_cmE {n : Nat} {a b c x y : Int} {l k : List Val'} {s : List UInt8} {es es' : Nat} {fl fl' : Fl} (h1 : es = 2 ∨ l = []) (h2 : es' = 2 ∨ k = []) :
    VW n (.agg [.int .i64 a, .int .i64 b, .dat es (vals l) fl, .int .i64 c, .int .u64 x, .int .u64 y, .dat es' (vals k) fl', .str s]) (.agg (ccells ((a, b, l), (c, x, y, k), s))) := by
  refine .agg _ _ rfl fun j v v' e1 e2 => ?_
  match j, e1, e2 with
  | 0, e1, e2 => cases e1; cases e2; exact .im _
  | 1, e1, e2 => cases e1; cases e2; exact .im _
  | 2, e1, e2 =>
    cases e1; cases e2
    rcases h1 with rfl | rfl
    · exact .no _ _ _
    · exact .nil _ _ _ _ (.inr (.inl rfl))
  | 3, e1, e2 => cases e1; cases e2; exact .im _
  | 4, e1, e2 => cases e1; cases e2; exact .im _
  | 5, e1, e2 => cases e1; cases e2; exact .im _
  | 6, e1, e2 =>
    cases e1; cases e2
    rcases h2 with rfl | rfl
    · exact .no _ _ _
    · exact .nil _ _ _ _ (.inr (.inl rfl))
  | 7, e1, e2 => cases e1; cases e2; exact .str _
  | j + 8, e1, e2 => cases e1
theorem shown8_ct (G : Nat → Option (List V)) (hG : G 0 = some wV) (H : Heap) : Call2 Go.Proofs.Tryd.prog G 5 [] H fun r H' => H' = H ∧ r = .bool true := by
  refine Call2.free (fun x hx => by cases hx) ?_ H
  have hcs : CmS shC := ⟨fun v hv => by
      simp only [shC, shM, List.mem_cons, List.not_mem_nil, or_false] at hv
      rcases hv with rfl | rfl | rfl | rfl | rfl <;> exact Nat.le_of_ble_eq_true rfl, (fun v hv => by cases hv), Nat.zero_le _, by show (List.replicate 5000 (0 : UInt8)).length ≤ maxBytes; rw [List.length_replicate]; decide⟩
  have hf := frames_ct G hG shC hcs 1 4096
  obtain ⟨a, b, hab⟩ := shC_ok
  rw [hab] at hf
  obtain ⟨p, hp, hpl⟩ : ∃ p : List UInt8, List.replicate 4088 0 = p ∧ p.length = 4088 := ⟨_, rfl, List.length_replicate⟩
  obtain ⟨q, hq, hql⟩ : ∃ q : List UInt8, List.replicate 912 0 = q ∧ q.length = 912 := ⟨_, rfl, List.length_replicate⟩
  rw [hp, hq] at hf
  obtain ⟨z, hz, hzl⟩ : ∃ z : List UInt8, z = List.replicate 5000 0 ∧ z.length = 5000 := ⟨_, rfl, List.length_replicate⟩
  have hsc : shC = (shM, (60, 5000, 0, []), z) := by rw [hz]; rfl
  have hzt := zeros_take
  rw [← hz] at hzt
  rw [hsc] at hf
  clear hsc hcs hab hp hq
  clear hz
  obtain ⟨a1, a2, a3⟩ := a
  obtain ⟨b1, b2, b3⟩ := b
  refine stCall2 Go.Proofs.Tryd.func5 rfl (by decide) ?_
  conv => whnf
  intro hw
  refine wpc_drawG2 [2] [] [(0, 2)] (by rfl) (by kernel_rfl) (by kernel_rfl) hw ?_
  conv => whnf
  refine ⟨⟨rfl, by decide, by decide, show (1 : Int) * 5000 ≤ 140737488355328 by decide⟩, ?_⟩
  conv => whnf
  refine ⟨rfl, rfl, z, ⟨hzl, hzt⟩, ?_⟩
  conv => whnf
  refine ⟨_, fun X _ => Call2.weakA (args' := [.agg (ccells (shM, (60, 5000, 0, []), z)), .int .i64 1, .int .i64 4096]) ?_ (hf _), ?_⟩
  · exact .cons (vw_cmE (l := shM.2.2) (k := []) (.inl rfl) (.inr rfl)) (.cons (.im _) (.cons (.im _) .nil))
  conv => whnf
  refine br_t (show bsel true (decide ((p.length : Int) = 4088)) false = true from decide_eq_true (by omega)) ?_
  conv => whnf
  refine ⟨.im _, ?_⟩
  show V.bool (bsel true (decide ((q.length : Int) = 912)) false) = V.bool true
  rw [decide_eq_true (show (q.length : Int) = 912 by omega)]
  rfl
end Go.Abs.Sig

/-! CA11 -/
namespace Go.Abs.Sig
open Go.RowKit Go.Abs
set_option linter.unusedSimpArgs false
set_option linter.unusedVariables false
set_option maxRecDepth 8000
attribute [local irreducible] StCall StYield WPc Weak IterOf Lp2 framesF

theorem frR_get {l : List Frm} {i : Nat} {f : Frm} (h : l[i]? = some f) : (frR l)[Int.toNat (i : Int)]? = some (fcells f) := by
  show (frR l)[i]? = _
  unfold frR
  rw [List.getElem?_map, h]
  rfl
def fewS (x y : List Frm) (m : Int) (i : Nat) : S2 := headS 74 ([.bad, .bad, .bad, .bad, .bad, .bad, .bad, .im (.bool true), .dat 3 (frR x) .no, .bad, .dat 3 (frR y) .no, .im (.int .i64 0), .im (.int .i64 m), .im (.int .i64 (i : Int))] ++ List.replicate 60 .bad) [none] [] none
set_option maxHeartbeats 1000000 in
theorem contentFew_ct (G : Nat → Option (List V)) (hG : G 0 = some wV) (c : Cm) (hc : CmS c) (a b : Int) (H : Heap) : Call2 Go.Proofs.Tryd.prog G 3 [.agg (ccells c), .int .i64 a, .int .i64 b] H fun r H' => H' = H ∧ r = .bool true := by
  refine Call2.free (fun x hx => by
    simp only [List.mem_cons, List.not_mem_nil, or_false] at hx
    rcases hx with rfl | rfl | rfl
    · exact ccells_free _
    · exact .im _
    · exact .im _) ?_ H
  have h1 := frames_ct G hG c hc 1 a
  have h2 := frames_ct G hG c hc 1 b
  have hok := @frames_ok c 1 a
  have hmore := @frames_more c 1 a b
  generalize framesF c 1 a = x at h1 hok hmore
  generalize framesF c 1 b = y at h2 hmore
  obtain ⟨x, e⟩ := x
  obtain ⟨y, f⟩ := y
  obtain ⟨⟨c1, c2, c3⟩, ⟨c4, c5, c6, c7⟩, c8⟩ := c
  unfold frV at h1 h2
  simp only at h1 h2
  refine stCall2 Go.Proofs.Tryd.func3 rfl (by decide) ?_
  conv => whnf
  refine Call2.mono (shown8_ct G hG _) fun r0 H0 h => ?_
  obtain ⟨h1, h2⟩ := h
  rw [h1, h2]
  clear h1 h2 r0 H0
  conv => whnf
  refine Call2.mono (h1 _) fun r0 H0 h => ?_
  obtain ⟨h1, h2⟩ := h
  rw [h1, h2]
  clear h1 h2 r0 H0
  conv => whnf
  refine Call2.mono (h2 _) fun r0 H0 h => ?_
  obtain ⟨h1, h2⟩ := h
  rw [h1, h2]
  clear h1 h2 r0 H0
  conv => whnf
  by_cases he : e ≠ 0
  · refine br_t (decide_eq_true he) ?_
    conv => whnf
    refine br_t (decide_eq_true he) ?_
    conv => whnf
    exact ⟨.im _, rfl⟩
  refine br_f (decide_eq_false he) ?_
  conv => whnf
  by_cases hab : b < a
  · refine br_t (show bsel false true (decide (b < a)) = true from decide_eq_true hab) ?_
    conv => whnf
    refine br_f (decide_eq_false he) ?_
    conv => whnf
    refine ⟨.im _, ?_⟩
    rw [decide_eq_true hab]
    rfl
  refine br_f (show bsel false true (decide (b < a)) = false from decide_eq_false hab) ?_
  have he0 : e = 0 := by simpa using he
  subst he0
  obtain ⟨k, hk, hkl⟩ := hmore rfl (by omega)
  obtain ⟨rfl, rfl⟩ := Prod.mk.inj hk
  have hok := hok rfl
  obtain ⟨_, hall, _, hfew, _⟩ := hok
  have hmf : mostF a + 8 ≤ if a < 4096 then 4096 else a := by unfold mostF; split <;> omega
  have hmm : mostF a ≤ 131064 := (mostF_rng a).2
  have hfx := frR_len x
  have hfy := frR_len y
  conv => whnf
  by_cases ha : a < 4096
  · refine br_t (decide_eq_true ha) ?_
    rw [if_pos ha] at hmf
    obtain ⟨mm, hm0⟩ : ∃ mm : Int, 4096 = mm := ⟨_, rfl⟩
    have hmf2 : mostF a + 8 ≤ mm := by omega
    conv => whnf
    intro hw
    refine wpc_loop2 (fun n1 s1 => ∃ i : Nat, i ≤ x.length ∧ n1 = x.length - i ∧ s1 = fewS x y mm i) x.length (fewS x y mm 0) ?_ ⟨0, Nat.zero_le _, rfl, rfl⟩ ?_ ?_
    · exact weak2 hw rfl ⟨.im _, .dat _ _ _, .dat _ _ _, .im _, .int hm0, .im _, trivial⟩ (.cons (.drop _) (.nil _)) (fun id hid => by cases hid) rfl (fun id hid => by cases hid)
    · rintro n1 s1 ⟨i, _, _, rfl⟩
      exact ⟨⟨Nat.le_refl 74, fun x hx => by cases hx⟩, rfl, Nat.le_refl _, rfl⟩
    rintro n1 s1 ⟨i, hi, rfl, rfl⟩
    by_cases hil : i < x.length
    · obtain ⟨f, hf⟩ : ∃ f, x[i]? = some f := ⟨_, List.getElem?_eq_getElem hil⟩
      obtain ⟨_, _, hfl, _⟩ := hall i f hf
      have hgf := frR_get hf
      have hd0 : (true && true && decide ((0 : Int) ≤ (i : Int))) = true := by simp
      have hwi : IntKind.i64.wrap ((i : Int) + 1) = ((i + 1 : Nat) : Int) := by rw [wrap_i64 (by omega) (by omega)]; rfl
      have hw8 : IntKind.i64.wrap ((f.2.2.length : Int) + 8) = (f.2.2.length : Int) + 8 := wrap_i64 (by omega) (by omega)
      conv => whnf
      refine br_t (decide_eq_true (by omega)) ?_
      conv => whnf
      refine grd_intro hd0 (optK_intro hgf ?_)
      conv => whnf
      rw [hw8]
      refine br_f (decide_eq_false (by omega)) ?_
      conv => whnf
      intro hw2
      refine ⟨x.length - (i + 1), fewS x y mm (i + 1), by omega, ?_, i + 1, by omega, rfl, rfl⟩
      exact weak2 hw2 rfl ⟨.im _, .dat _ _ _, .dat _ _ _, .im _, .im _, .int hwi, trivial⟩ (.cons (.drop _) (.nil _)) (fun id hid => by cases hid) rfl (fun id hid => by cases hid)
    · conv => whnf
      refine br_f (decide_eq_false (by omega)) ?_
      conv => whnf
      refine ⟨.im _, ?_⟩
      rw [show decide (((frR y).length : Int) ≤ ((frR x).length : Int)) = true from decide_eq_true (by omega)]
      rfl
  · refine br_f (decide_eq_false ha) ?_
    rw [if_neg ha] at hmf
    obtain ⟨mm, hm0⟩ : ∃ mm : Int, a = mm := ⟨_, rfl⟩
    have hmf2 : mostF a + 8 ≤ mm := by omega
    conv => whnf
    intro hw
    refine wpc_loop2 (fun n1 s1 => ∃ i : Nat, i ≤ x.length ∧ n1 = x.length - i ∧ s1 = fewS x y mm i) x.length (fewS x y mm 0) ?_ ⟨0, Nat.zero_le _, rfl, rfl⟩ ?_ ?_
    · exact weak2 hw rfl ⟨.im _, .dat _ _ _, .dat _ _ _, .im _, .int hm0, .im _, trivial⟩ (.cons (.drop _) (.nil _)) (fun id hid => by cases hid) rfl (fun id hid => by cases hid)
    · rintro n1 s1 ⟨i, _, _, rfl⟩
      exact ⟨⟨Nat.le_refl 74, fun x hx => by cases hx⟩, rfl, Nat.le_refl _, rfl⟩
    rintro n1 s1 ⟨i, hi, rfl, rfl⟩
    by_cases hil : i < x.length
    · obtain ⟨f, hf⟩ : ∃ f, x[i]? = some f := ⟨_, List.getElem?_eq_getElem hil⟩
      obtain ⟨_, _, hfl, _⟩ := hall i f hf
      have hgf := frR_get hf
      have hd0 : (true && true && decide ((0 : Int) ≤ (i : Int))) = true := by simp
      have hwi : IntKind.i64.wrap ((i : Int) + 1) = ((i + 1 : Nat) : Int) := by rw [wrap_i64 (by omega) (by omega)]; rfl
      have hw8 : IntKind.i64.wrap ((f.2.2.length : Int) + 8) = (f.2.2.length : Int) + 8 := wrap_i64 (by omega) (by omega)
      conv => whnf
      refine br_t (decide_eq_true (by omega)) ?_
      conv => whnf
      refine grd_intro hd0 (optK_intro hgf ?_)
      conv => whnf
      rw [hw8]
      refine br_f (decide_eq_false (by omega)) ?_
      conv => whnf
      intro hw2
      refine ⟨x.length - (i + 1), fewS x y mm (i + 1), by omega, ?_, i + 1, by omega, rfl, rfl⟩
      exact weak2 hw2 rfl ⟨.im _, .dat _ _ _, .dat _ _ _, .im _, .im _, .int hwi, trivial⟩ (.cons (.drop _) (.nil _)) (fun id hid => by cases hid) rfl (fun id hid => by cases hid)
    · conv => whnf
      refine br_f (decide_eq_false (by omega)) ?_
      conv => whnf
      refine ⟨.im _, ?_⟩
      rw [show decide (((frR y).length : Int) ≤ ((frR x).length : Int)) = true from decide_eq_true (by omega)]
      rfl
end Go.Abs.Sig

/-! CA12 -/
namespace Go.Abs.Sig
open Go.RowKit Go.Abs
set_option linter.unusedSimpArgs false
set_option linter.unusedVariables false
set_option maxRecDepth 8000
attribute [local irreducible] StCall StYield WPc Weak IterOf Lp2 framesF

theorem sumL_drop {l : List Frm} {i : Nat} {f : Frm} (h : l[i]? = some f) (hi : 2 ≤ i) : sumL ((l.take (i + 1)).drop 2) = sumL ((l.take i).drop 2) + f.2.2.length := by
  have hl := (List.getElem?_eq_some_iff.1 h).1
  rw [List.take_add_one, h, List.drop_append_of_le_length (by rw [List.length_take]; omega)]
  simp [sumL]
theorem sumL_small {l : List Frm} {i : Nat} (hi : i ≤ 2) : sumL ((l.take i).drop 2) = 0 := by
  rw [List.drop_of_length_le (by rw [List.length_take]; omega)]
  rfl
theorem sumL_app (a b : List Frm) : sumL (a ++ b) = sumL a + sumL b := by simp [sumL]
theorem sumL_le {l : List Frm} {i : Nat} : sumL ((l.take i).drop 2) ≤ sumL (l.drop 2) := by
  rw [List.drop_take]
  have : sumL (l.drop 2) = sumL ((l.drop 2).take (i - 2)) + sumL ((l.drop 2).drop (i - 2)) := by
    rw [← sumL_app, List.take_append_drop]
  omega
def kinS (c : Cm) (ch : Int) (l : List Frm) (i n : Nat) : S2 := headS 95 ([.bad, .im (.int .i64 ch), .bad, .ptr 0 0, .bad, .bad, .bad, .im (.bool true), .dat 3 (frR l) .no, .bad, .im (.int .i64 (n : Int)), .im (.int .i64 (i : Int))] ++ List.replicate 83 .bad) [some (.cells 29 (ccells c))] [] none
set_option maxHeartbeats 1000000 in
theorem contentKinds_ct (G : Nat → Option (List V)) (hG : G 0 = some wV) (c : Cm) (hc : CmS c) (ch most : Int) (H : Heap) : Call2 Go.Proofs.Tryd.prog G 4 [.agg (ccells c), .int .i64 ch, .int .i64 most] H fun r H' => H' = H ∧ r = .bool true := by
  refine Call2.free (fun x hx => by
    simp only [List.mem_cons, List.not_mem_nil, or_false] at hx
    rcases hx with rfl | rfl | rfl
    · exact ccells_free _
    · exact .im _
    · exact .im _) ?_ H
  have h1 := frames_ct G hG c hc ch most
  have hr := cright_ct G hG c hc
  have hok := @frames_ok c ch most
  have herr := @frames_err c ch most
  generalize framesF c ch most = x at h1 hok herr
  generalize cRight c = cr at hr herr
  obtain ⟨l, e⟩ := x
  have hcf := ccells_free' c
  obtain ⟨⟨c1, c2, c3⟩, ⟨c4, c5, c6, c7⟩, c8⟩ := c
  unfold frV at h1
  simp only at h1
  refine stCall2 Go.Proofs.Tryd.func4 rfl (by decide) ?_
  conv => whnf
  refine Call2.mono (shown8_ct G hG _) fun r0 H0 h => ?_
  obtain ⟨h1, h2⟩ := h
  rw [h1, h2]
  clear h1 h2 r0 H0
  conv => whnf
  refine Call2.mono (h1 _) fun r0 H0 h => ?_
  obtain ⟨h1, h2⟩ := h
  rw [h1, h2]
  clear h1 h2 r0 H0
  conv => whnf
  by_cases he : e ≠ 0
  · refine br_t (decide_eq_true he) ?_
    obtain ⟨hl0, hor⟩ := herr rfl he
    conv => whnf
    refine Call2.mono (hr _) fun r0 H0 h => ?_
    obtain ⟨h1, h2⟩ := h
    rw [h1, h2]
    clear h1 h2 r0 H0
    conv => whnf
    by_cases h2 : cr ≠ 0
    · refine br_t (decide_eq_true h2) ?_
      conv => whnf
      exact ⟨.im _, rfl⟩
    · refine br_f (decide_eq_false h2) ?_
      conv => whnf
      by_cases h3 : ch < 1
      · refine br_t (show bsel false true (decide (ch < 1)) = true from decide_eq_true h3) ?_
        conv => whnf
        exact ⟨.im _, rfl⟩
      · refine br_f (show bsel false true (decide (ch < 1)) = false from decide_eq_false h3) ?_
        conv => whnf
        by_cases h4 : 65535 < ch
        · refine br_t (show bsel false true (decide (65535 < ch)) = true from decide_eq_true h4) ?_
          conv => whnf
          exact ⟨.im _, rfl⟩
        · refine br_f (show bsel false true (decide (65535 < ch)) = false from decide_eq_false h4) ?_
          conv => whnf
          have he4 : e = 4 := by
            rcases hor with h | h | h | h
            · exact absurd h h2
            · exact absurd h h3
            · exact absurd h h4
            · exact h
          refine ⟨.im _, ?_⟩
          rw [decide_eq_true he4]
          rfl
  refine br_f (decide_eq_false he) ?_
  have he0 : e = 0 := by simpa using he
  subst he0
  obtain ⟨hch, hall, hsum, hfew, hbody⟩ := hok rfl
  have hfx := frR_len l
  simp only at hsum hbody
  have hmm := (mostF_rng most).2
  have hsle := fun i => @sumL_le l i
  conv => whnf
  intro hw
  refine wpc_loop2 (fun n1 s1 => ∃ i : Nat, i ≤ l.length ∧ n1 = l.length - i ∧ s1 = kinS ((c1, c2, c3), (c4, c5, c6, c7), c8) ch l i (sumL ((l.take i).drop 2))) l.length (kinS ((c1, c2, c3), (c4, c5, c6, c7), c8) ch l 0 0) ?_ ⟨0, Nat.zero_le _, rfl, rfl⟩ ?_ ?_
  · exact weak2 hw rfl ⟨.im _, .ptr 0 0 (show 0 < 1 by decide), .im _, .dat _ _ _, .im _, .im _, trivial⟩ (.cons (.free hcf) (.nil _)) (fun id hid => by cases hid) rfl (fun id hid => by cases hid)
  · rintro n1 s1 ⟨i, _, _, rfl⟩
    exact ⟨⟨Nat.le_refl 95, fun x hx => by cases hx⟩, rfl, Nat.le_refl _, rfl⟩
  rintro n1 s1 ⟨i, hi, rfl, rfl⟩
  have hsi := hsle i
  by_cases hil : i < l.length
  · obtain ⟨f, hf⟩ : ∃ f, l[i]? = some f := ⟨_, List.getElem?_eq_getElem hil⟩
    obtain ⟨hf1, hf2, hf3, hf4⟩ := hall i f hf
    have hgf := frR_get hf
    have hd0 : (true && true && decide ((0 : Int) ≤ (i : Int))) = true := by simp
    have hwi : IntKind.i64.wrap ((i : Int) + 1) = ((i + 1 : Nat) : Int) := by rw [wrap_i64 (by omega) (by omega)]; rfl
    obtain ⟨t, ch', d⟩ := f
    simp only at hf1 hf2 hf3 hf4
    subst hf2
    have hrt := fright_ct G t ch' d (by omega) hch (by omega) hf4
    conv => whnf
    refine br_t (decide_eq_true (by omega)) ?_
    conv => whnf
    refine grd_intro hd0 (optK_intro hgf ?_)
    conv => whnf
    refine Call2.mono (hrt _) fun r0 H0 h => ?_
    obtain ⟨h1, h2⟩ := h
    rw [h1, h2]
    clear h1 h2 r0 H0
    conv => whnf
    rw [hwi]
    have hneg : ∀ w : Int, t = w → decide (t ≠ w) = false := fun w h => decide_eq_false (fun hn => hn h)
    by_cases hi3 : 3 ≤ i
    · have ht3 : t = 3 := by omega
      subst ht3
      refine br_t (decide_eq_true (by omega)) ?_
      conv => whnf
      refine grd_intro hd0 (optK_intro hgf ?_)
      conv => whnf
      refine grd_intro hd0 (optK_intro hgf ?_)
      conv => whnf
      refine br_f (show bsel false true (decide (ch' ≠ ch')) = false from decide_eq_false (fun h => h rfl)) ?_
      conv => whnf
      by_cases hi1 : 1 < i
      · have hsd := sumL_drop hf (by omega)
        have hs2 := hsle (i + 1)
        simp only at hsd
        have hwn : IntKind.i64.wrap ((sumL ((l.take i).drop 2) : Int) + (d.length : Int)) = ((sumL ((l.take (i + 1)).drop 2) : Nat) : Int) := by rw [wrap_i64 (by omega) (by omega)]; omega
        refine br_t (decide_eq_true (by omega)) ?_
        conv => whnf
        refine grd_intro hd0 (optK_intro hgf ?_)
        conv => whnf
        intro hw2
        refine ⟨l.length - (i + 1), kinS ((c1, c2, c3), (c4, c5, c6, c7), c8) ch' l (i + 1) (sumL ((l.take (i + 1)).drop 2)), by omega, ?_, i + 1, by omega, rfl, rfl⟩
        exact weak2 hw2 rfl ⟨.im _, .ptr 0 0 (show 0 < 1 by decide), .im _, .dat _ _ _, .int hwn, .int hwi, trivial⟩ (.cons (.free hcf) (.nil _)) (fun id hid => by cases hid) rfl (fun id hid => by cases hid)
      · have hz1 := sumL_small (l := l) (i := i) (by omega)
        have hz2 := sumL_small (l := l) (i := i + 1) (by omega)
        refine br_f (decide_eq_false (by omega)) ?_
        conv => whnf
        intro hw2
        refine ⟨l.length - (i + 1), kinS ((c1, c2, c3), (c4, c5, c6, c7), c8) ch' l (i + 1) (sumL ((l.take (i + 1)).drop 2)), by omega, ?_, i + 1, by omega, rfl, rfl⟩
        exact weak2 hw2 rfl ⟨.im _, .ptr 0 0 (show 0 < 1 by decide), .im _, .dat _ _ _, .int (by rw [hz1, hz2]), .int hwi, trivial⟩ (.cons (.free hcf) (.nil _)) (fun id hid => by cases hid) rfl (fun id hid => by cases hid)
    · refine br_f (decide_eq_false (by omega)) ?_
      conv => whnf
      refine grd_intro hd0 (optK_intro hgf ?_)
      conv => whnf
      refine br_f (show bsel false true (decide (t ≠ ((i + 1 : Nat) : Int))) = false from hneg _ (by omega)) ?_
      conv => whnf
      refine grd_intro hd0 (optK_intro hgf ?_)
      conv => whnf
      refine br_f (show bsel false true (decide (ch' ≠ ch')) = false from decide_eq_false (fun h => h rfl)) ?_
      conv => whnf
      by_cases hi1 : 1 < i
      · have hsd := sumL_drop hf (by omega)
        have hs2 := hsle (i + 1)
        simp only at hsd
        have hwn : IntKind.i64.wrap ((sumL ((l.take i).drop 2) : Int) + (d.length : Int)) = ((sumL ((l.take (i + 1)).drop 2) : Nat) : Int) := by rw [wrap_i64 (by omega) (by omega)]; omega
        refine br_t (decide_eq_true (by omega)) ?_
        conv => whnf
        refine grd_intro hd0 (optK_intro hgf ?_)
        conv => whnf
        intro hw2
        refine ⟨l.length - (i + 1), kinS ((c1, c2, c3), (c4, c5, c6, c7), c8) ch' l (i + 1) (sumL ((l.take (i + 1)).drop 2)), by omega, ?_, i + 1, by omega, rfl, rfl⟩
        exact weak2 hw2 rfl ⟨.im _, .ptr 0 0 (show 0 < 1 by decide), .im _, .dat _ _ _, .int hwn, .int hwi, trivial⟩ (.cons (.free hcf) (.nil _)) (fun id hid => by cases hid) rfl (fun id hid => by cases hid)
      · have hz1 := sumL_small (l := l) (i := i) (by omega)
        have hz2 := sumL_small (l := l) (i := i + 1) (by omega)
        refine br_f (decide_eq_false (by omega)) ?_
        conv => whnf
        intro hw2
        refine ⟨l.length - (i + 1), kinS ((c1, c2, c3), (c4, c5, c6, c7), c8) ch' l (i + 1) (sumL ((l.take (i + 1)).drop 2)), by omega, ?_, i + 1, by omega, rfl, rfl⟩
        exact weak2 hw2 rfl ⟨.im _, .ptr 0 0 (show 0 < 1 by decide), .im _, .dat _ _ _, .int (by rw [hz1, hz2]), .int hwi, trivial⟩ (.cons (.free hcf) (.nil _)) (fun id hid => by cases hid) rfl (fun id hid => by cases hid)
  · have hie : i = l.length := by omega
    subst hie
    rw [List.take_length, hsum]
    conv => whnf
    refine br_f (decide_eq_false (by omega)) ?_
    conv => whnf
    refine ⟨.im _, ?_⟩
    rw [show decide ((c8.length : Int) = (c8.length : Int)) = true from decide_eq_true rfl]
    rfl
end Go.Abs.Sig

/-! CSH1 -/
namespace Go.Abs.Sig
open Go.RowKit Go.Abs Go.ChangeShapes Go.WideShapes Go.ChangeAt
set_option linter.unusedSimpArgs false
set_option linter.unusedVariables false
set_option maxRecDepth 8000

theorem reach_le : reachBytes ≤ maxBytes := by decide

theorem sh_int {n : Nat} {t : TypeId} {k : IntKind} {vs : List V} (hu : Program.underlying Go.Proofs.Tryd.prog t = some (.int k)) (h : Sh Go.Proofs.Tryd.prog (n + 1) t vs) : ∃ x, vs = [.im (.int k x)] ∧ (Lit.int k x).wf = true := by
  unfold Sh at h
  rw [hu] at h
  exact h
theorem sh_bool {n : Nat} {t : TypeId} {vs : List V} (hu : Program.underlying Go.Proofs.Tryd.prog t = some .bool) (h : Sh Go.Proofs.Tryd.prog (n + 1) t vs) : ∃ b, vs = [.im (.bool b)] := by
  unfold Sh at h
  rw [hu] at h
  exact h
theorem sh_str {n : Nat} {t : TypeId} {vs : List V} (hu : Program.underlying Go.Proofs.Tryd.prog t = some .string) (h : Sh Go.Proofs.Tryd.prog (n + 1) t vs) : ∃ l : List UInt8, vs = [.str l] ∧ l.length ≤ maxBytes := by
  unfold Sh at h
  rw [hu] at h
  obtain ⟨l, h1, h2⟩ := h
  exact ⟨l, h1, Nat.le_trans h2 reach_le⟩
theorem sh_slice {n : Nat} {t e : TypeId} {vs : List V} (hu : Program.underlying Go.Proofs.Tryd.prog t = some (.slice e)) (h : Sh Go.Proofs.Tryd.prog (n + 1) t vs) : ∃ rows, vs = [.dat (Program.cellsOf Go.Proofs.Tryd.prog e) rows .no] ∧ rows.length * Program.bytesOf Go.Proofs.Tryd.prog e ≤ reachBytes ∧ ∀ r ∈ rows, Sh Go.Proofs.Tryd.prog n e r := by
  unfold Sh at h
  rw [hu] at h
  exact h
theorem sh_struct {n : Nat} {t : TypeId} {fs : Array Field} {vs : List V} (hu : Program.underlying Go.Proofs.Tryd.prog t = some (.struct fs)) (h : Sh Go.Proofs.Tryd.prog (n + 1) t vs) : ShFs (Sh Go.Proofs.Tryd.prog n) fs.toList vs := by
  unfold Sh at h
  rw [hu] at h
  exact h

theorem wf_u64 {n : Int} (h : (Lit.int .u64 n).wf = true) : 0 ≤ n ∧ n ≤ 18446744073709551615 := by
  simp only [Lit.wf, Bool.and_eq_true, decide_eq_true_eq] at h
  exact h

/-- Rows of a kind. -/
theorem rows_of {α : Type} {f : α → List V} {Q : α → Prop} : ∀ (rows : List (List V)), (∀ r ∈ rows, ∃ x, r = f x ∧ Q x) → ∃ l : List α, rows = l.map f ∧ ∀ x ∈ l, Q x
  | [], _ => ⟨[], rfl, fun x h => by cases h⟩
  | r :: rows, h => by
    obtain ⟨x, rfl, hx⟩ := h r (by simp)
    obtain ⟨l, rfl, hl⟩ := rows_of rows fun r hr => h r (by simp [hr])
    exact ⟨x :: l, rfl, fun y hy => by
      rcases List.mem_cons.1 hy with rfl | hy
      · exact hx
      · exact hl y hy⟩

/-- A value that may be there. -/
def OkVal (v : Val') : Prop := (0 ≤ v.1 ∧ v.1 ≤ 18446744073709551615) ∧ v.2.length ≤ maxBytes
def OkMet (m : Met) : Prop := (-9223372036854775808 ≤ m.1 ∧ m.1 ≤ 9223372036854775807) ∧ (-9223372036854775808 ≤ m.2.1 ∧ m.2.1 ≤ 9223372036854775807) ∧ m.2.2.length * 24 ≤ reachBytes ∧ ∀ v ∈ m.2.2, OkVal v

theorem sh_val {n : Nat} {vs : List V} (h : Sh Go.Proofs.Tryd.prog (n + 2) 41 vs) : ∃ v : Val', vs = [.int .u64 v.1, .str v.2] ∧ OkVal v := by
  obtain ⟨p, q, h1, ⟨p', q', h2, rfl, rfl⟩, rfl⟩ := sh_struct Go.Proofs.Tryd.underlying41 h
  obtain ⟨x, rfl, hx⟩ := sh_int Go.Proofs.Tryd.underlying25 h1
  obtain ⟨l, rfl, hl⟩ := sh_str Go.Proofs.Tryd.underlying9 h2
  exact ⟨(x, l), rfl, wf_u64 hx, hl⟩

theorem sh_met {n : Nat} {vs : List V} (h : Sh Go.Proofs.Tryd.prog (n + 4) 24 vs) : ∃ m : Met, vs = mcells m ∧ OkMet m := by
  obtain ⟨p, q, h1, ⟨p', q', h2, ⟨p'', q'', h3, rfl, rfl⟩, rfl⟩, rfl⟩ := sh_struct Go.Proofs.Tryd.underlying24 h
  obtain ⟨a, rfl, ha⟩ := sh_int Go.Proofs.Tryd.underlying3 h1
  obtain ⟨b, rfl, hb⟩ := sh_int Go.Proofs.Tryd.underlying3 h2
  obtain ⟨rows, rfl, hr, he⟩ := sh_slice Go.Proofs.Tryd.underlying22 h3
  obtain ⟨l, rfl, hl⟩ := rows_of (f := fun v : Val' => [.int .u64 v.1, .str v.2]) rows fun r hr => sh_val (he r hr)
  have hc : Program.cellsOf Go.Proofs.Tryd.prog 41 = 2 := by kernel_rfl
  have hby : Program.bytesOf Go.Proofs.Tryd.prog 41 = 24 := by kernel_rfl
  rw [hc]
  rw [hby, List.length_map] at hr
  exact ⟨(a, b, l), rfl, wf_i64 ha, wf_i64 hb, hr, hl⟩

theorem shv_met {n : Nat} {x : V} (h : ShV Go.Proofs.Tryd.prog (n + 4) 24 x) : ∃ m : Met, x = .agg (mcells m) ∧ OkMet m := by
  have ha : aggT Go.Proofs.Tryd.prog 24 = true := by kernel_rfl
  unfold ShV at h
  rw [ha] at h
  obtain ⟨vs, rfl, h⟩ := h
  obtain ⟨m, rfl, hm⟩ := sh_met h
  exact ⟨m, rfl, hm⟩
theorem shv_val {n : Nat} {x : V} (h : ShV Go.Proofs.Tryd.prog (n + 2) 41 x) : ∃ v : Val', x = .agg [.int .u64 v.1, .str v.2] ∧ OkVal v := by
  have ha : aggT Go.Proofs.Tryd.prog 41 = true := by kernel_rfl
  unfold ShV at h
  rw [ha] at h
  obtain ⟨vs, rfl, h⟩ := h
  obtain ⟨m, rfl, hm⟩ := sh_val h
  exact ⟨m, rfl, hm⟩
theorem shv_int {n : Nat} {x : V} (h : ShV Go.Proofs.Tryd.prog (n + 1) 3 x) : ∃ i : Int, x = .int .i64 i ∧ (-9223372036854775808 ≤ i ∧ i ≤ 9223372036854775807) := by
  have ha : aggT Go.Proofs.Tryd.prog 3 = false := by kernel_rfl
  unfold ShV at h
  rw [ha] at h
  obtain ⟨i, h1, h2⟩ := sh_int Go.Proofs.Tryd.underlying3 h
  rw [List.cons.injEq] at h1
  exact ⟨i, h1.1, wf_i64 h2⟩
theorem shv_str {n : Nat} {x : V} (h : ShV Go.Proofs.Tryd.prog (n + 1) 9 x) : ∃ l : List UInt8, x = .str l ∧ l.length ≤ maxBytes := by
  have ha : aggT Go.Proofs.Tryd.prog 9 = false := by kernel_rfl
  unfold ShV at h
  rw [ha] at h
  obtain ⟨i, h1, h2⟩ := sh_str Go.Proofs.Tryd.underlying9 h
  rw [List.cons.injEq] at h1
  exact ⟨i, h1.1, h2⟩
end Go.Abs.Sig

/-! CWGlob -/
namespace Go.Abs.Sig
open Go.RowKit Go.Abs Go.ChangeShapes Go.WideShapes Go.ChangeAt
set_option linter.unusedSimpArgs false
set_option linter.unusedVariables false
set_option maxRecDepth 8000

def laidW : List (String × DataW Unit) := [("interchange/num.widths", Go.Proofs.YtdpbkooiibaaaaaDoor.Rows.laid_interchange_num_widths)]
def wInts : List Int := [1, 2, 4, 8]
theorem laidW_eq : (Go.Proofs.YtdpbkooiibaaaaaDoor.Rows.laid_interchange_num_widths : DataW Unit) = .agg (wInts.map fun n => .lit (.int .i64 n)) := rfl

theorem gW : Program.globalNamed Go.Proofs.Tryd.prog "interchange/num.widths" = some 0 := by kernel_rfl
theorem tW : (Go.Proofs.Tryd.prog.globals[0]?).map (·.type) = some 101 := by kernel_rfl
def GW (g : Nat) : Option (List V) := if g = 0 then some wV else none
theorem GW0 : GW 0 = some wV := rfl

theorem w_cells {enc : TypeId × Value → Unit} {W : World} {sp : Nat → Bool} {held : Bool} {b f0 : Nat} {l : List Value} {p0 : List MemPlace} (hd : DataW.trod enc Go.Proofs.Tryd.prog W b sp held f0 101 l = some (.agg (wInts.map fun n => .lit (.int .i64 n)), p0)) (i : Nat) (n : Int) (hr : wInts[i]? = some n) :
    l[i]? = some (.int .i64 n) := by
  have c3 : Program.cellsOf Go.Proofs.Tryd.prog 3 = 1 := by kernel_rfl
  obtain ⟨xs, m, _, hx, hlen, hn, hel⟩ := DataW.trod_array Go.Proofs.Tryd.underlying101 hd
  simp only [Prod.mk.injEq, DataW.agg.injEq] at hx
  have hi : i < 4 := (List.getElem?_eq_some_iff.1 hr).1
  have hxi : (xs.map (·.1))[i]? = some (.lit (.int .i64 n)) := by rw [← hx.1, List.getElem?_map, hr]; rfl
  rw [List.getElem?_map] at hxi
  obtain ⟨y, hy, hye⟩ := Option.map_eq_some_iff.1 hxi
  have he := hel i hi
  rw [c3, hy] at he
  obtain ⟨k1, g1, g1', _⟩ := DataW.trod_int Go.Proofs.Tryd.underlying3 he
  rw [g1'] at hye
  simp only [DataW.lit.injEq, Lit.int.injEq, true_and] at hye
  subst hye
  have h0 : ((l.drop (i * 1)).take 1)[0]? = some (.int .i64 k1) := by rw [g1]; rfl
  rw [List.getElem?_take_of_lt (by omega), List.getElem?_drop] at h0
  simpa using h0

theorem glob_GW {W : World} (h : laidMetH Go.Proofs.Tryd.prog laidW W) : ∀ g cs, GW g = some cs → Rep W (Env.all W) (.rp cs) (.pointer (some ⟨g, 0, none⟩)) := by
  intro g cs hg
  rw [MakeChecks.laidMetH_plain _ _ _ (by kernel_rfl)] at h
  obtain ⟨ps, ⟨g0, t0, cs0, f0, p0, q0, hg0, ht0, hv0, hd0, _, _⟩, _, _⟩ := h
  obtain rfl := Option.some.inj (gW.symm.trans hg0)
  obtain rfl := Option.some.inj (tW.symm.trans ht0)
  have hcell : ∀ j, W.cell? ⟨0, j, none⟩ = cs0[j]? := fun j => World.var?_cell hg0 hv0 j
  unfold GW at hg
  split at hg
  · rename_i h1
    subst h1
    obtain rfl : wV = cs := Option.some.inj hg
    refine rep_glob (fun j => (W.cell? ⟨0, j, none⟩).getD (.int .i64 0)) fun j v hv => ?_
    have hj : j < 4 := (List.getElem?_eq_some_iff.1 hv).1
    obtain ⟨n, hr⟩ : ∃ n, wInts[j]? = some n := ⟨_, List.getElem?_eq_getElem (by show j < 4; exact hj)⟩
    have c0 := w_cells hd0 j n hr
    have hv' : v = .int .i64 n := by
      have : wV = wInts.map fun n => V.int .i64 n := rfl
      rw [this, List.getElem?_map, hr] at hv
      exact (Option.some.inj hv).symm
    have hc : cs0[j]? = some (.int .i64 n) := by simpa using c0
    rw [hcell j, hc, hv']
    exact ⟨rfl, rfl⟩
  · cases hg

/-- The door's own heap meets the condition. -/
theorem doorW_met (os : Os) (args : Array Value) : laidMetH Go.Proofs.Tryd.prog laidW ((World.doorLaid Go.Proofs.Tryd.prog 400 os).forCall (fun _ _ => 0) ⟨#[], args, []⟩).memory :=
  laidMetH_of_parts3 (fuel := 8) (laidMet_of_run' 8 (by kernel_rfl) (by kernel_rfl)) (by kernel_rfl) (by kernel_rfl)
end Go.Abs.Sig

/-! CAW -/
namespace Go.Abs.Sig
open Go.RowKit Go.Abs
set_option linter.unusedSimpArgs false
set_option linter.unusedVariables false
set_option maxRecDepth 8000

def OkHd (h : Hd) : Prop := (-9223372036854775808 ≤ h.1 ∧ h.1 ≤ 9223372036854775807) ∧ (0 ≤ h.2.1 ∧ h.2.1 ≤ 18446744073709551615) ∧ (0 ≤ h.2.2.1 ∧ h.2.2.1 ≤ 18446744073709551615) ∧ h.2.2.2.length * 24 ≤ reachBytes ∧ ∀ v ∈ h.2.2.2, OkVal v
def OkCm (c : Cm) : Prop := OkMet c.1 ∧ OkHd c.2.1 ∧ c.2.2.length ≤ maxBytes
theorem sh_hd {n : Nat} {vs : List V} (h : Sh Go.Proofs.Tryd.prog (n + 4) 27 vs) : ∃ m : Hd, vs = hdcells m ∧ OkHd m := by
  obtain ⟨p, q, h1, ⟨p', q', h2, ⟨p'', q'', h3, ⟨p3, q3, h4, rfl, rfl⟩, rfl⟩, rfl⟩, rfl⟩ := sh_struct Go.Proofs.Tryd.underlying27 h
  obtain ⟨a, rfl, ha⟩ := sh_int Go.Proofs.Tryd.underlying3 h1
  obtain ⟨b, rfl, hb⟩ := sh_int Go.Proofs.Tryd.underlying25 h2
  obtain ⟨c, rfl, hc⟩ := sh_int Go.Proofs.Tryd.underlying25 h3
  obtain ⟨rows, rfl, hr, he⟩ := sh_slice Go.Proofs.Tryd.underlying22 h4
  obtain ⟨l, rfl, hl⟩ := rows_of (f := fun v : Val' => [.int .u64 v.1, .str v.2]) rows fun r hr => sh_val (he r hr)
  have hcc : Program.cellsOf Go.Proofs.Tryd.prog 41 = 2 := by kernel_rfl
  have hby : Program.bytesOf Go.Proofs.Tryd.prog 41 = 24 := by kernel_rfl
  rw [hcc]
  rw [hby, List.length_map] at hr
  exact ⟨(a, b, c, l), rfl, wf_i64 ha, wf_u64 hb, wf_u64 hc, hr, hl⟩
theorem sh_cm {n : Nat} {vs : List V} (h : Sh Go.Proofs.Tryd.prog (n + 5) 29 vs) : ∃ c : Cm, vs = ccells c ∧ OkCm c := by
  obtain ⟨p, q, h1, ⟨p', q', h2, ⟨p'', q'', h3, rfl, rfl⟩, rfl⟩, rfl⟩ := sh_struct Go.Proofs.Tryd.underlying29 h
  obtain ⟨m, rfl, hm⟩ := sh_met h1
  obtain ⟨hd, rfl, hh⟩ := sh_hd h2
  obtain ⟨l, rfl, hl⟩ := sh_str Go.Proofs.Tryd.underlying9 h3
  exact ⟨(m, hd, l), by unfold ccells; simp, hm, hh, hl⟩
theorem shv_cm {n : Nat} {x : V} (h : ShV Go.Proofs.Tryd.prog (n + 5) 29 x) : ∃ c : Cm, x = .agg (ccells c) ∧ OkCm c := by
  have ha : aggT Go.Proofs.Tryd.prog 29 = true := by kernel_rfl
  unfold ShV at h
  rw [ha] at h
  obtain ⟨vs, rfl, h⟩ := h
  obtain ⟨m, rfl, hm⟩ := sh_cm h
  exact ⟨m, rfl, hm⟩
theorem okCm_s {c : Cm} (h : OkCm c) : CmS c := by
  obtain ⟨h1, h2, h3⟩ := h
  refine ⟨fun v hv => (h1.2.2.2 v hv).2, fun v hv => (h2.2.2.2.2 v hv).2, ?_, h3⟩
  have : c.2.1.2.2.2.length * 24 ≤ 140737488351232 := h2.2.2.2.1
  show c.2.1.2.2.2.length ≤ 2 ^ 63 - 1
  omega
theorem contentFew_walk (xs : List V) (h : ShAll Go.Proofs.Tryd.prog 8 (#[29, 3, 3] : Array TypeId).toList xs) : Call2 Go.Proofs.Tryd.prog GW 3 xs [] fun r H' => H' = [] ∧ r = .bool true := by
  obtain ⟨x1, r1, h1, ⟨x2, r2, h2, ⟨x3, r3, h3, rfl, rfl⟩, rfl⟩, rfl⟩ := h
  obtain ⟨c, rfl, hc⟩ := shv_cm h1
  obtain ⟨a, rfl, _⟩ := shv_int h2
  obtain ⟨b, rfl, _⟩ := shv_int h3
  exact contentFew_ct GW GW0 c (okCm_s hc) a b []
theorem contentKinds_walk (xs : List V) (h : ShAll Go.Proofs.Tryd.prog 8 (#[29, 3, 3] : Array TypeId).toList xs) : Call2 Go.Proofs.Tryd.prog GW 4 xs [] fun r H' => H' = [] ∧ r = .bool true := by
  obtain ⟨x1, r1, h1, ⟨x2, r2, h2, ⟨x3, r3, h3, rfl, rfl⟩, rfl⟩, rfl⟩ := h
  obtain ⟨c, rfl, hc⟩ := shv_cm h1
  obtain ⟨a, rfl, _⟩ := shv_int h2
  obtain ⟨b, rfl, _⟩ := shv_int h3
  exact contentKinds_ct GW GW0 c (okCm_s hc) a b []
end Go.Abs.Sig
