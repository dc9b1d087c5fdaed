/- Regions, code, functions and loops, laid out so that reduction alone works them out. -/
import Derived.Test.YteklnflddoekfaaDoorAbsEv3
namespace Go.Abs
open Go.RowKit

variable {P : Program} {G : Nat → Option (List V)}

def put2 (s : S2) (d : Option Tmp) (v : V) (k : S2 → Prop) : Prop :=
  match d, s with
  | none, s => k s
  | some d, ⟨n, b, u, H, ds, c⟩ => grd (Nat.blt d n) (k ⟨n, b, (d, v) :: u, H, ds, c⟩)

theorem put2_imp {s : S2} {d : Option Tmp} {v : V} {k : S2 → Prop} (hw : s.Wf) (h : put2 s d v k) : ∃ s', s'.st = s.st.put d v ∧ s'.Wf ∧ s'.n = s.n ∧ k s' := by
  cases d with
  | none =>
    refine ⟨s, rfl, hw, rfl, ?_⟩
    cases s; exact h
  | some d =>
    have h : grd (Nat.blt d s.n) (k { s with upd := (d, v) :: s.upd }) := by cases s; exact h
    rw [grd_iff] at h
    refine ⟨{ s with upd := (d, v) :: s.upd }, rfl, ⟨hw.n, fun x hx => ?_⟩, rfl, h.2⟩
    simp only [List.mem_cons] at hx
    rcases hx with rfl | hx
    · exact Nat.lt_of_lt_of_le (Nat.blt_eq.mp h.1) hw.n
    · exact hw.d x hx

/-- A guard's temporary, now that its value is known. -/
def shadow (s : S2) (d : Nat) (b : Bool) : S2 := match s with | ⟨n, bs, u, H, ds, c⟩ => ⟨n, bs, (d, .bool b) :: u, H, ds, c⟩
theorem shadow_eq (s : S2) (d : Nat) (b : Bool) : shadow s d b = { s with upd := (d, .bool b) :: s.upd } := by cases s; rfl

theorem shadow_st {s : S2} (hw : s.Wf) {d : Nat} {b : Bool} (h : look s.upd s.base d = .bool b) : (shadow s d b).st = s.st ∧ (shadow s d b).Wf := by
  have h1 : (app s.upd s.base).getD d .bad = .bool b := by rw [look_eq s.base.length s.base (Nat.le_refl _) d s.upd hw.d]; exact h
  -- a temporary that is known is there
  have hlt : d < (app s.upd s.base).length := by
    rcases Nat.lt_or_ge d (app s.upd s.base).length with h2 | h2
    · exact h2
    · rw [List.getD_eq_getElem?_getD, List.getElem?_eq_none h2] at h1
      cases h1
  have hset : (app s.upd s.base).set d (.bool b) = app s.upd s.base := by
    rw [List.getD_eq_getElem?_getD, List.getElem?_eq_getElem hlt] at h1
    simp only [Option.getD_some] at h1
    rw [← h1]
    exact List.set_getElem_self hlt
  rw [shadow_eq]
  refine ⟨by simp only [S2.st, app, hset], hw.n, fun x hx => ?_⟩
  simp only [List.mem_cons] at hx
  rcases hx with rfl | hx
  · rwa [app_length] at hlt
  · exact hw.d x hx

def evOps2 (P : Program) (G : Nat → Option (List V)) (all : List Oper) : List Oper → S2 → (S2 → Prop) → Prop
  | [], s, k => k s
  | o :: rest, s, k =>
    match o.guard with
    | none => evOp2 P G o s fun v s' => put2 s' o.dst v fun s'' => evOps2 P G all rest s'' k
    | some (j, want) => match (all[j]?).bind (·.dst) with
      | none => False
      | some d => match look s.upd s.base d with
        | .im (.bool b) => match want with
          | true => br b (evOp2 P G o (shadow s d true) fun v s' => put2 s' o.dst v fun s'' => evOps2 P G all rest s'' k) (put2 (shadow s d false) o.dst (.tup []) fun s'' => evOps2 P G all rest s'' k)
          | false => br b (put2 (shadow s d true) o.dst (.tup []) fun s'' => evOps2 P G all rest s'' k) (evOp2 P G o (shadow s d false) fun v s' => put2 s' o.dst v fun s'' => evOps2 P G all rest s'' k)
        | .tup [] => put2 s o.dst (.tup []) fun s'' => evOps2 P G all rest s'' k
        | _ => False

theorem yieldedV_look {all : List Oper} {s : S2} (hw : s.Wf) {j : Nat} {d : Nat} (hd : (all[j]?).bind (·.dst) = some d) {v : V} (hv : v ≠ .bad) (h : look s.upd s.base d = v) : yieldedV all s.st j = some v := by
  unfold yieldedV
  rw [hd]
  simp only
  have h1 : (app s.upd s.base).getD d .bad = v := by rw [look_eq s.base.length s.base (Nat.le_refl _) d s.upd hw.d]; exact h
  show (app s.upd s.base)[d]? = some v
  rw [List.getD_eq_getElem?_getD] at h1
  cases hg : (app s.upd s.base)[d]? with
  | none => rw [hg] at h1; exact absurd h1.symm hv
  | some x => rw [hg] at h1; simp only [Option.getD_some] at h1; rw [h1]

theorem evOps2_imp {all : List Oper} {k : S2 → Prop} {K : St → Prop} (n : Nat) (hK : ∀ s' : S2, s'.Wf → s'.n = n → k s' → K s'.st) : ∀ (rest : List Oper) (s : S2), s.Wf → s.n = n → evOps2 P G all rest s k → evOps P G all rest s.st K := by
  intro rest
  induction rest with
  | nil => intro s hw hn h; exact hK s hw hn h
  | cons o rest ih =>
    intro s hw hn h
    have run : ∀ s : S2, s.Wf → s.n = n → evOp2 P G o s (fun v s' => put2 s' o.dst v fun s'' => evOps2 P G all rest s'' k) → evOp P G o s.st (fun v σ' => evOps P G all rest (σ'.put o.dst v) K) := by
      intro s hw hn h
      refine evOp2_imp hw (fun v s' hw' hn' h' => ?_) h
      obtain ⟨s'', h1, h2, h3, h4⟩ := put2_imp hw' h'
      rw [← h1]
      exact ih s'' h2 (h3.trans (hn'.trans hn)) h4
    have skip : ∀ s : S2, s.Wf → s.n = n → put2 s o.dst (.tup []) (fun s'' => evOps2 P G all rest s'' k) → evOps P G all rest (s.st.put o.dst (.tup [])) K := by
      intro s hw hn h
      obtain ⟨s'', h1, h2, h3, h4⟩ := put2_imp hw h
      rw [← h1]
      exact ih s'' h2 (h3.trans hn) h4
    simp only [evOps2] at h
    simp only [evOps]
    cases hg : o.guard with
    | none =>
      rw [hg] at h
      exact run s hw hn h
    | some g =>
      obtain ⟨j, want⟩ := g
      rw [hg] at h
      simp only at h ⊢
      split at h
      · exact h.elim
      · rename_i d hd
        split at h
        · rename_i b hl
          rw [yieldedV_look hw hd (by simp) hl]
          simp only
          cases want with
          | true =>
            simp only [br_iff] at h
            refine ⟨fun hb => ?_, fun hb => ?_⟩
            · subst hb
              obtain ⟨h1, h2⟩ := shadow_st hw hl
              have := run _ h2 hn (h.1 rfl)
              rwa [h1] at this
            · have hb' : b = false := by simpa using hb
              subst hb'
              obtain ⟨h1, h2⟩ := shadow_st hw hl
              have := skip _ h2 hn (h.2 rfl)
              rwa [h1] at this
          | false =>
            simp only [br_iff] at h
            refine ⟨fun hb => ?_, fun hb => ?_⟩
            · subst hb
              obtain ⟨h1, h2⟩ := shadow_st hw hl
              have := run _ h2 hn (h.2 rfl)
              rwa [h1] at this
            · have hb' : b = true := by simpa using hb
              subst hb'
              obtain ⟨h1, h2⟩ := shadow_st hw hl
              have := skip _ h2 hn (h.1 rfl)
              rwa [h1] at this
        · rename_i hl
          rw [yieldedV_look hw hd (by simp) hl]
          exact skip s hw hn h
        · exact h.elim

/-! ### code -/
/-- What is asked behind a piece of code that is walked by its own rule. -/
def toΦ (n : Nat) (Φ : Exit → S2 → Prop) (x : Exit) (σ : St) : Prop := ∃ s : S2, σ = s.st ∧ s.Wf ∧ s.n = n ∧ Φ x s

def evCode2 (P : Program) (G : Nat → Option (List V)) : Code → (Exit → S2 → Prop) → S2 → Prop
  | .skip, Φ, s => Φ .normal s
  | .region id ops d, Φ, s => match d with
    | false => evOps2 P G ops.toList ops.toList s (Φ .normal)
    | true => s.Wf → WPc P G (.region id ops true) (toΦ s.n Φ) s.st
  | .seq a b, Φ, s => evCode2 P G a (fun x s' => match x with
    | .normal => evCode2 P G b Φ s'
    | x => Φ x s') s
  | .cond c a b, Φ, s => match s.ev c with
    | .im (.bool t) => br t (evCode2 P G a Φ s) (evCode2 P G b Φ s)
    | _ => False
  | .block id c, Φ, s => evCode2 P G c (fun x s' => match x with
    | .exit i => match Nat.beq i id with
      | true => Φ .normal s'
      | false => Φ (.exit i) s'
    | x => Φ x s') s
  | .loop c, Φ, s => s.Wf → WPc P G (.loop c) (toΦ s.n Φ) s.st
  | .rangeFunc f ps a c, Φ, s => s.Wf → WPc P G (.rangeFunc f ps a c) (toΦ s.n Φ) s.st
  | .exit id, Φ, s => Φ (.exit id) s
  | .scope c, Φ, s => s.Wf → WPc P G (.scope c) (toΦ s.n Φ) s.st
  | .label _, Φ, s => Φ .normal s
  | .goto l, Φ, s => Φ (.goto l) s
  | .ret, Φ, s => Φ .ret s
  | .refuse _, _, _ => False

theorem wpc_seq {x y : Code} {Φ : Exit → St → Prop} {σ : St} (h : WPc P G x (fun ex σ' => match ex with | .normal => WPc P G y Φ σ' | ex => Φ ex σ') σ) : WPc P G (.seq x y) Φ σ := by
  intro a w e hst
  refine wpIn_seq ?_
  refine wpIn_mono (h a w e hst) ?_
  rintro ex a' w' ⟨σ', e', hΦ, hc, hst', hx⟩
  have hro : σ'.cur.map e'.ρ = σ.cur.map e.ρ := cur_same hst hc hx
  cases ex with
  | normal =>
    have := hΦ a' w' e' hst'
    rw [hro] at this
    refine wpIn_mono this ?_
    rintro ex2 a2 w2 ⟨σ2, e2, hΦ2, hc2, hst2, hx2⟩
    exact ⟨σ2, e2, hΦ2, hc2.trans hc, hst2, hx.trans hx2⟩
  | _ => exact ⟨σ', e', hΦ, hc, hst', hx⟩

theorem wpc_cond {c : Operand} {x y : Code} {Φ : Exit → St → Prop} {σ : St} {t : Bool} (hc : σ.ev c = .im (.bool t)) (h1 : t = true → WPc P G x Φ σ) (h2 : t = false → WPc P G y Φ σ) : WPc P G (.cond c x y) Φ σ := by
  intro a w e hst
  have hv := hst.ev c
  rw [hc] at hv
  have ht : a.eval c = .bool t := rep_im hv
  refine wpIn_cond ht ?_
  cases t with
  | true => exact h1 rfl a w e hst
  | false => exact h2 rfl a w e hst

theorem wpc_block {id : Nat} {c : Code} {Φ : Exit → St → Prop} {σ : St} (h : WPc P G c (fun x σ' => match x with
    | .exit i => if i = id then Φ .normal σ' else Φ (.exit i) σ'
    | x => Φ x σ') σ) : WPc P G (.block id c) Φ σ := by
  intro a w e hst
  refine wpIn_block ?_
  refine wpIn_mono (h a w e hst) ?_
  rintro ex a' w' ⟨σ', e', hΦ, hc, hst', hx⟩
  cases ex with
  | exit i =>
    simp only at hΦ
    by_cases hi : i = id
    · rw [if_pos hi] at hΦ
      have : (Exit.inBlock id (fun x a' w' => ∃ σ' e', Φ x σ' ∧ σ'.cur = σ.cur ∧ RSt G σ' a' w' e' ∧ Ext σ.H w e σ'.H w' e') (.exit i) a' w') = (∃ σ' e', Φ .normal σ' ∧ σ'.cur = σ.cur ∧ RSt G σ' a' w' e' ∧ Ext σ.H w e σ'.H w' e') := by
        simp [Exit.inBlock, hi]
      rw [this]
      exact ⟨σ', e', hΦ, hc, hst', hx⟩
    · rw [if_neg hi] at hΦ
      have : (Exit.inBlock id (fun x a' w' => ∃ σ' e', Φ x σ' ∧ σ'.cur = σ.cur ∧ RSt G σ' a' w' e' ∧ Ext σ.H w e σ'.H w' e') (.exit i) a' w') = (∃ σ' e', Φ (.exit i) σ' ∧ σ'.cur = σ.cur ∧ RSt G σ' a' w' e' ∧ Ext σ.H w e σ'.H w' e') := by
        simp [Exit.inBlock, hi]
      rw [this]
      exact ⟨σ', e', hΦ, hc, hst', hx⟩
  | _ => exact ⟨σ', e', hΦ, hc, hst', hx⟩

theorem evCode2_sound (c : Code) (n : Nat) : ∀ (Φ : Exit → S2 → Prop) (s : S2), s.Wf → s.n = n → evCode2 P G c Φ s → WPc P G c (toΦ n Φ) s.st := by
  have base : ∀ (c : Code) (x : Exit) (Φ : Exit → S2 → Prop) (s : S2), s.Wf → s.n = n → evCode P G c (fun y σ => y = x ∧ σ = s.st) s.st → Φ x s → WPc P G c (toΦ n Φ) s.st := by
    intro c x Φ s hw hn h hΦ
    refine (evCode_sound c _ _ h).mono ?_
    rintro y σ ⟨rfl, rfl⟩
    exact ⟨s, rfl, hw, hn, hΦ⟩
  induction c with
  | skip => intro Φ s hw hn h; exact base _ .normal Φ s hw hn ⟨rfl, rfl⟩ h
  | label l => intro Φ s hw hn h; exact base _ .normal Φ s hw hn ⟨rfl, rfl⟩ h
  | exit i => intro Φ s hw hn h; exact base _ (.exit i) Φ s hw hn ⟨rfl, rfl⟩ h
  | goto l => intro Φ s hw hn h; exact base _ (.goto l) Φ s hw hn ⟨rfl, rfl⟩ h
  | ret => intro Φ s hw hn h; exact base _ .ret Φ s hw hn ⟨rfl, rfl⟩ h
  | refuse w => intro Φ s hw hn h; exact h.elim
  | loop c ih => intro Φ s hw hn h; subst hn; exact h hw
  | scope c ih => intro Φ s hw hn h; subst hn; exact h hw
  | rangeFunc f ps a c iha ihc => intro Φ s hw hn h; subst hn; exact h hw
  | region id ops d =>
    intro Φ s hw hn h
    cases d with
    | true => subst hn; exact h hw
    | false => exact evCode_sound (.region id ops false) _ _ (evOps2_imp n (fun s' hw' hn' h' => ⟨s', rfl, hw', hn', h'⟩) _ s hw hn h)
  | seq a b iha ihb =>
    intro Φ s hw hn h
    refine wpc_seq ((iha _ s hw hn h).mono ?_)
    rintro ex σ' ⟨s', rfl, hw', hn', h'⟩
    cases ex with
    | normal => exact ihb Φ s' hw' hn' h'
    | _ => exact ⟨s', rfl, hw', hn', h'⟩
  | cond c a b iha ihb =>
    intro Φ s hw hn h
    simp only [evCode2] at h
    split at h
    · rename_i t hc
      rw [br_iff] at h
      exact wpc_cond (by rw [S2.ev_eq hw, hc]) (fun ht => iha Φ s hw hn (h.1 ht)) (fun ht => ihb Φ s hw hn (h.2 ht))
    · exact h.elim
  | block id c ih =>
    intro Φ s hw hn h
    refine wpc_block ((ih _ s hw hn h).mono ?_)
    rintro ex σ' ⟨s', rfl, hw', hn', h'⟩
    cases ex with
    | exit i =>
      simp only at h' ⊢
      by_cases hi : i = id
      · subst hi
        rw [if_pos rfl]
        rw [Nat.beq_refl] at h'
        exact ⟨s', rfl, hw', hn', h'⟩
      · rw [if_neg hi]
        have : Nat.beq i id = false := by
          cases hb : Nat.beq i id with
          | false => rfl
          | true => exact absurd (Nat.eq_of_beq_eq_true hb) hi
        rw [this] at h'
        exact ⟨s', rfl, hw', hn', h'⟩
    | _ => exact ⟨s', rfl, hw', hn', h'⟩

/-! ### functions -/
def readV2 (P : Program) (s : S2) (k : V → Prop) : ResultVar → Prop
  | .tmp t => force (look s.upd s.base t) k
  | .cell a t => evLoad2 P t s.H (fun v => force v k) (look s.upd s.base a)

def readVs2 (P : Program) (s : S2) : List ResultVar → List V → (List V → Prop) → Prop
  | [], acc, k => k acc
  | r :: rs, acc, k => readV2 P s (fun v => readVs2 P s rs (acc ++ [v]) k) r

def isDefd (H : Heap) (id : Nat) : Bool := match H[id]? with
  | some (some .defd) => true
  | _ => false

def nodupB : List Nat → Bool
  | [] => true
  | x :: xs => !xs.any (Nat.beq x) && nodupB xs

theorem nodupB_spec : ∀ l : List Nat, nodupB l = true → l.Nodup
  | [], _ => .nil
  | x :: xs, h => by
    simp only [nodupB, Bool.and_eq_true, Bool.not_eq_true'] at h
    refine List.nodup_cons.2 ⟨fun hx => ?_, nodupB_spec xs h.2⟩
    have := List.any_eq_false.1 h.1 x hx
    simp at this

def retΦ2' (P : Program) (fn : Func) (Ψ : V → Heap → Prop) (s : S2) : Prop :=
  match s with
  | ⟨n, b, u, H, [], c⟩ => readVs2 P ⟨n, b, u, H, [], c⟩ fn.results.toList [] fun vs => match vs with
    | [v] => Ψ v.strip H
    | vs => Ψ (.tup vs) H
  | ⟨n, b, u, H, d :: ds, c⟩ => grd ((d :: ds).all (isDefd H) && nodupB (d :: ds)) (readVs2 P ⟨n, b, u, (d :: ds).foldl (fun H id => H.set id none) H, [], c⟩ fn.results.toList [] fun vs => match vs with
    | [v] => Ψ v.strip ((d :: ds).foldl (fun H id => H.set id none) H)
    | vs => Ψ (.tup vs) ((d :: ds).foldl (fun H id => H.set id none) H))

def retΦ2 (P : Program) (fn : Func) (Ψ : V → Heap → Prop) : Exit → S2 → Prop
  | .normal, s | .ret, s => retΦ2' P fn Ψ s
  | _, _ => False

theorem readVs2_imp {s : S2} (hw : s.Wf) (k : List V → Prop) : ∀ (rs : List ResultVar) (acc : List V), readVs2 P s rs acc k → readVs P s.st rs acc k := by
  intro rs
  induction rs with
  | nil => intro acc h; exact h
  | cons r rs ih =>
    intro acc h
    simp only [readVs2] at h
    simp only [readVs]
    cases r with
    | tmp t =>
      simp only [readV2, force_iff] at h
      simp only [readV]
      rw [show (s.st.tmps.getD t .bad) = look s.upd s.base t from S2.ev_eq hw (.tmp t)]
      exact ih _ h
    | cell a t =>
      simp only [readV2, force_iff] at h
      simp only [readV]
      rw [show (s.st.tmps.getD a .bad) = look s.upd s.base a from S2.ev_eq hw (.tmp a)]
      exact evLoad_mono (fun v hv => ih _ hv) (evLoad2_imp (σ := s.st) h)

theorem isDefd_spec {H : Heap} {id : Nat} (h : isDefd H id = true) : H[id]? = some (some .defd) := by
  unfold isDefd at h
  split at h
  · assumption
  · cases h

theorem retΦ2_imp {fn : Func} {Ψ : V → Heap → Prop} {x : Exit} {s : S2} (hw : s.Wf) (h : retΦ2 P fn Ψ x s) : retΦ P fn Ψ x s.st := by
  have main : retΦ2' P fn Ψ s → retΦ P fn Ψ .ret s.st := by
    intro h
    unfold retΦ
    obtain ⟨n, b, u, H, ds, c⟩ := s
    cases ds with
    | nil =>
      have hnd : ([] : List Nat).Nodup := .nil
      have hno : ∀ id ∈ ([] : List Nat), H[id]? = some (some Blk.defd) := fun id hid => by cases hid
      exact And.intro hno (And.intro hnd (readVs2_imp hw _ fn.results.toList [] h))
    | cons d ds =>
      simp only [retΦ2'] at h
      rw [grd_iff, Bool.and_eq_true] at h
      have h1 : ∀ id ∈ d :: ds, H[id]? = some (some Blk.defd) := fun id hid => isDefd_spec (List.all_eq_true.1 h.1.1 id hid)
      exact And.intro h1 (And.intro (nodupB_spec _ h.1.2) (readVs2_imp (s := ⟨n, b, u, (d :: ds).foldl (fun H id => H.set id none) H, [], c⟩) ⟨hw.n, hw.d⟩ _ fn.results.toList [] h.2))
  cases x with
  | normal => exact main h
  | ret => exact main h
  | _ => exact h.elim

def begin2 (fn : Func) (args : List V) (H : Heap) : S2 := { n := fn.ntmps, base := args ++ List.replicate (fn.ntmps - args.length) (.tup []), upd := [], H := H, defs := [], cur := none }

theorem begin2_wf (fn : Func) (args : List V) (H : Heap) : (begin2 fn args H).Wf := ⟨by simp [begin2]; omega, fun x hx => by cases hx⟩

/-- A function's contract, out of its body. -/
theorem stCall2 {f : FuncId} {fn : Func} {c : Code} {args : List V} {H : Heap} {Ψ : V → Heap → Prop} (hf : P.funcs[f]? = some fn) (hb : fn.body = some c) (hname : (fn.name == "runtime.NumGoroutine") = false)
    (hk : evCode2 P G c (retΦ2 P fn Ψ) (begin2 fn args H)) : Call2 P G f args H Ψ := by
  refine ⟨⟨fn, hf, by rw [hb]; rfl, hname⟩, ?_⟩
  intro w e us hR hargs
  refine callsIn_of_wp_marks hf hb trivial ?_ rfl
  have hst : RSt G (begin_ fn args H) { tmps := us.toArray ++ Array.replicate (fn.ntmps - us.toArray.size) undef, defers := [] } w e := by
    refine ⟨hR, ?_, rfl, fun id hid => by simp [begin_] at hid, fun id hid => by simp [begin_] at hid⟩
    have := reps_begin hargs fn.ntmps
    simpa [begin_] using this
  have hbeg : (begin2 fn args H).st = begin_ fn args H := rfl
  refine wpIn_mono (evCode2_sound c fn.ntmps _ _ (begin2_wf fn args H) rfl hk _ w e (hbeg ▸ hst)) ?_
  rintro x a' w' ⟨σ', e', ⟨s', rfl, hw', hn', hΦ⟩, hc, hst', hx⟩
  have := retΦ2_imp hw' hΦ
  cases x with
  | normal => exact retΦ_leaves hst' this hx
  | ret => exact retΦ_leaves hst' this hx
  | _ => exact this.elim

/-! ### loops -/
/-- Temporaries that say less, one by one. -/
def vwl (m : Nat) (u : List (Nat × V)) (b : List V) : Nat → List V → Prop
  | _, [] => True
  | i, v :: vs => match v with
    | .bad => vwl m u b (i + 1) vs
    | v => VW m (look u b i) v ∧ vwl m u b (i + 1) vs

theorem vwl_spec {m : Nat} {u : List (Nat × V)} {b : List V} (hd : ∀ x ∈ u, x.1 < b.length) : ∀ (vs : List V) (i : Nat), vwl m u b i vs → i + vs.length = b.length → VWs m ((app u b).drop i) vs := by
  intro vs
  induction vs with
  | nil =>
    intro i _ hl
    have : (app u b).drop i = [] := List.drop_of_length_le (by rw [app_length]; simp at hl; omega)
    rw [this]
    exact .nil
  | cons v vs ih =>
    intro i h hl
    simp only [List.length_cons] at hl
    have hi : i < (app u b).length := by rw [app_length]; omega
    rw [List.drop_eq_getElem_cons hi]
    have hlook : (app u b)[i] = look u b i := by
      rw [← look_eq b.length b (Nat.le_refl _) i u hd, List.getD_eq_getElem?_getD, List.getElem?_eq_getElem hi]
      rfl
    have key : VW m (look u b i) v ∧ vwl m u b (i + 1) vs := by
      unfold vwl at h
      split at h
      · exact ⟨.bad _, h⟩
      · exact h
    refine .cons ?_ (ih (i + 1) key.2 (by omega))
    rw [hlook]
    exact key.1

/-- The state at a loop's head: temporaries written out. -/
def headS (n : Nat) (vs : List V) (H : Heap) (defs : List Nat) (cur : Option Nat) : S2 := { n := n, base := vs, upd := [], H := H, defs := defs, cur := cur }

/-- To say less: temporaries and blocks. -/
theorem weak2 {s : S2} {vs : List V} {H : Heap} {cur : Option Nat} (hw : s.Wf) (hl : vs.length = s.base.length) (ht : vwl H.length s.upd s.base 0 vs) (hb : BWs H.length s.H H) (hd : ∀ id ∈ s.defs, id < H.length) (hcur : s.cur = cur) (hc : ∀ id, cur = some id → id < H.length) :
    Weak G s.st (headS s.n vs H s.defs cur).st := by
  subst hcur
  have := Weak.mk' (G := G) (σ := s.st) vs H (by
    have := vwl_spec hw.d vs 0 ht (by omega)
    rw [List.drop_zero] at this
    exact this) hb hd hc
  exact this


/-- A loop: an invariant over states, with a number that every round lowers. -/
theorem wpc_loop2 {c : Code} {Φ : Exit → S2 → Prop} {s : S2} {n : Nat} (I : Nat → S2 → Prop) (m0 : Nat) (s0 : S2) (hw0 : Weak G s.st s0.st) (h0 : I m0 s0)
    (hI : ∀ m s1, I m s1 → s1.Wf ∧ s1.n = n ∧ s.H.length ≤ s1.H.length ∧ s1.cur = s.cur)
    (round : ∀ m s1, I m s1 → evCode2 P G c (fun x s' => match x with
      | .normal => s'.Wf → ∃ m' s2, m' < m ∧ Weak G s'.st s2.st ∧ I m' s2
      | x => Φ x s') s1) : WPc P G (.loop c) (toΦ n Φ) s.st := by
  intro a w e h
  have hws := hw0
  obtain ⟨e0, hst0, hx0⟩ := hw0.2 a w e h
  refine wpIn_loop_rel (m := m0) (fun m a' w' => ∃ s1 e1, I m s1 ∧ RSt G s1.st a' w' e1 ∧ Ext s.st.H w e s1.st.H w' e1) ?_ ⟨s0, e0, h0, hst0, hx0 _ _ _ (hI _ _ h0).2.2.1 (.refl _ _ _)⟩
  rintro m a1 w1 ⟨s1, e1, hI1, hst1, hx1⟩
  obtain ⟨hw1, hn1, hl1, hc1⟩ := hI m s1 hI1
  have := evCode2_sound c n _ s1 hw1 hn1 (round m s1 hI1) a1 w1 e1 hst1
  rw [cur_same (σ := s.st) (σ' := s1.st) h hc1 hx1] at this
  refine wpIn_mono this ?_
  rintro x a2 w2 ⟨σ2, e2, ⟨s2, rfl, hw2, hn2, hΦ⟩, hc2, hst2, hx2⟩
  cases x with
  | normal =>
    obtain ⟨m', s3, hlt, hwk, hI3⟩ := hΦ hw2
    obtain ⟨e3, hst3, hx3⟩ := hwk.2 a2 w2 e2 hst2
    exact ⟨m', hlt, s3, e3, hI3, hst3, hx3 _ _ _ (hI _ _ hI3).2.2.1 (hx1.trans hx2)⟩
  | _ => exact ⟨s2.st, e2, ⟨s2, rfl, hw2, hn2, hΦ⟩, hc2.trans hc1, hst2, hx1.trans hx2⟩

/-- The heap's first blocks. -/
theorem bws_app {H X : Heap} (hs : Scoped H) : BWs H.length (H ++ X) H := BWs.of fun i y hy => by
  refine ⟨y, by rw [List.getElem?_append_left (List.getElem?_eq_some_iff.1 hy).1]; exact hy, ?_⟩
  cases y with
  | none => exact .drop _
  | some b => exact hs i b hy

theorem Scoped.bws {H : Heap} (hs : Scoped H) : BWs H.length H H := by
  have := bws_app (X := []) hs
  rwa [List.append_nil] at this

theorem VW.int {n : Nat} {k : IntKind} {a b : Int} (h : a = b) : VW n (.im (.int k a)) (.im (.int k b)) := h ▸ .im _
theorem VW.boolE {n : Nat} {a b : Bool} (h : a = b) : VW n (.im (.bool a)) (.im (.bool b)) := h ▸ .im _

theorem IterOf.mk {f : FuncId} {pre caps : List V} {items : List (List V)} {K : Heap → Prop} (h : ∀ (id n : Nat) (Inv : Nat → Heap → Prop) (Fin : Heap → Prop) (H : Heap),
    (∀ i H', Inv i H' → H'.length = n ∧ id < n ∧ K H') →
    (∀ H', Fin H' → H'.length = n) →
    (∀ (i : Nat) (x : List V) (H' : Heap), items[i]? = some x → Inv i H' → Scoped H' → StYield P G id x H' fun r H'' => H''.length = H'.length ∧ ((r = .bool true ∧ Inv (i + 1) H'') ∨ (r = .bool false ∧ Fin H''))) →
    (∀ H', Inv items.length H' → Fin H') → Inv 0 H → Scoped H →
    StCall P G f ((pre ++ [V.yld id] ++ caps).map V.strip) H fun _ H' => Fin H') : IterOf P G f pre caps items K :=
  fun id n Inv Fin H h1 h2 h3 h4 h5 => StCall.inScope fun hs => h id n Inv Fin H h1 h2 h3 h4 h5 hs

theorem evLoadCells2_congr {t : TypeId} {vs vs' : List V} {k : V → Prop} (h : vs = vs') (hk : evLoadCells2 P t vs' k) : evLoadCells2 P t vs k := h ▸ hk

theorem Call2.free {f : FuncId} {args : List V} {Ψ : V → Prop} (ha : ∀ v ∈ args, v.Free) (h : Call2 P G f args [] fun r _ => r.Free ∧ Ψ r) (H : Heap) :
    Call2 P G f args H fun r H' => H' = H ∧ Ψ r := ⟨h.1, h.2.free ha H⟩

theorem Call2.cut {f : FuncId} {args : List V} {H : Heap} {Ψ : V → Heap → Prop} (h : Call2 P G f args H fun r H' => ∃ H1, Cut H.length H H' H1 ∧ VW H.length r r ∧ Ψ r H1) : Call2 P G f args H Ψ := ⟨h.1, h.2.cut⟩

theorem wrap_i64 {n : Int} (h1 : -9223372036854775808 ≤ n) (h2 : n < 9223372036854775808) : IntKind.i64.wrap n = n := by
  simp [IntKind.wrap, IntKind.bits, IntKind.signed]
  omega


theorem VW.free {n : Nat} {v : V} (h : v.Free) : VW n v v := by
  induction h with
  | im v => exact .im v
  | str l => exact .str l
  | dat es rows fl _ => exact .dat es rows fl
  | rp cs => exact .rp cs
  | agg cs h ih => exact .agg cs cs rfl fun i v v' h1 h2 => by rw [h1] at h2; cases h2; exact ih v (List.mem_of_getElem? h1)
  | tup cs h ih => exact .tup cs cs rfl fun i v v' h1 h2 => by rw [h1] at h2; cases h2; exact ih v (List.mem_of_getElem? h1)
  | fn f a b ha hb iha ihb => exact .fn f a b (fun i v h => iha v (List.mem_of_getElem? h)) (fun i v h => ihb v (List.mem_of_getElem? h))
  | bad => exact .bad _

theorem Cut.app {n : Nat} {H H1 X : Heap} (hs : Scoped H1) (hl : H1.length = n) : Cut n H (H1 ++ X) H1 := ⟨X, rfl, hl, fun id b hb => .inr (by rw [← hl]; exact hs id b hb)⟩
theorem Cut.self {n : Nat} {H H1 : Heap} (hs : Scoped H1) (hl : H1.length = n) : Cut n H H1 H1 := by
  have := Cut.app (H := H) (X := []) hs hl
  rwa [List.append_nil] at this

theorem VW.unit (n : Nat) : VW n (.tup []) (.tup []) := .tup [] [] rfl fun i v v' h => by simp at h

theorem VW.mono {n m : Nat} (hm : n ≤ m) {v v' : V} (h : VW n v v') : VW m v v' := by
  induction h with
  | bad v => exact .bad v
  | im v => exact .im v
  | str l => exact .str l
  | ptr id off h => exact .ptr id off (by omega)
  | mp id h => exact .mp id (by omega)
  | yld id h => exact .yld id (by omega)
  | arr id es len h => exact .arr id es len (by omega)
  | nil es es' fl fl' h => exact .nil es es' fl fl' h
  | dat es rows fl => exact .dat es rows fl
  | no es rows fl => exact .no es rows fl
  | cls es rows c => exact .cls es rows c
  | rp cs => exact .rp cs
  | fn f a b ha hb iha ihb => exact .fn f a b iha ihb
  | agg cs cs' hl h ih => exact .agg cs cs' hl ih
  | tup cs cs' hl h ih => exact .tup cs cs' hl ih

theorem VWs.mono {n m : Nat} (hm : n ≤ m) {vs vs' : List V} (h : VWs n vs vs') : VWs m vs vs' := by
  induction h with
  | nil => exact .nil
  | cons h _ ih => exact .cons (h.mono hm) ih

theorem BW.mono {n m : Nat} (hm : n ≤ m) {b b' : Option Blk} (h : BW n b b') : BW m b b' := by
  cases h with
  | drop b => exact .drop b
  | cells t vs vs' h => exact .cells t vs vs' (h.mono hm)
  | map es es' c h1 h2 => exact .map es es' c (h1.mono hm) (h2.mono hm)
  | defd => exact .defd
  | iter m since stepped seen hd => exact .iter m since stepped seen (by omega)
  | loop st pend tmps tmps' ps a b d h hd => exact .loop st pend tmps tmps' ps a b d (h.mono hm) (by omega)

theorem Scoped.app {H L : Heap} (hs : Scoped H) (hb : ∀ b : Blk, some b ∈ L → BW (H.length + L.length) (some b) (some b)) : Scoped (H ++ L) := by
  intro id b h
  rw [List.length_append]
  by_cases hid : id < H.length
  · rw [List.getElem?_append_left hid] at h
    exact (hs id b h).mono (by omega)
  · rw [List.getElem?_append_right (by omega)] at h
    exact hb b (List.mem_of_getElem? h)

theorem VW.datE {n es : Nat} {rows rows' : List (List V)} {fl : Fl} (h : rows = rows') : VW n (.dat es rows fl) (.dat es rows' fl) := h ▸ .dat es rows fl

theorem VW.ptrE {n i j o : Nat} (h : i = j) (hj : j < n) : VW n (.ptr i o) (.ptr j o) := by
  subst h
  exact .ptr i o hj

/-- A block of cells in which no block is named. -/
theorem BW.free {n : Nat} {t : TypeId} {vs : List V} (h : ∀ v ∈ vs, v.Free) : BW n (some (.cells t vs)) (some (.cells t vs)) :=
  .cells t vs vs (.self fun _ v hv => .free (h v (List.mem_of_getElem? hv)))

theorem free_tup2 {a b : V} (h1 : a.Free) (h2 : b.Free) : (V.tup [a, b]).Free := .tup _ fun v hv => by
  simp only [List.mem_cons, List.not_mem_nil, or_false] at hv
  rcases hv with rfl | rfl
  · exact h1
  · exact h2

/-! ### blocks behind a heap that isn't known -/
theorem ga0 {α : Type} (H L : List α) (a : α) : (H ++ a :: L)[H.length]? = some a := by
  simp
theorem ga1 {α : Type} (H L : List α) (a b : α) : (H ++ a :: b :: L)[H.length + 1]? = some b := get_app H (a :: b :: L) 1
theorem ga2 {α : Type} (H L : List α) (a b c : α) : (H ++ a :: b :: c :: L)[H.length + 2]? = some c := get_app H (a :: b :: c :: L) 2
theorem ga3 {α : Type} (H L : List α) (a b c d : α) : (H ++ a :: b :: c :: d :: L)[H.length + 3]? = some d := get_app H (a :: b :: c :: d :: L) 3
theorem ga4 {α : Type} (H L : List α) (a b c d e : α) : (H ++ a :: b :: c :: d :: e :: L)[H.length + 4]? = some e := get_app H (a :: b :: c :: d :: e :: L) 4
theorem ga5 {α : Type} (H L : List α) (a b c d e f : α) : (H ++ a :: b :: c :: d :: e :: f :: L)[H.length + 5]? = some f := get_app H (a :: b :: c :: d :: e :: f :: L) 5
theorem sa0 {α : Type} (H L : List α) (a x : α) : (H ++ a :: L).set H.length x = H ++ x :: L := by
  simp
theorem sa1 {α : Type} (H L : List α) (a b x : α) : (H ++ a :: b :: L).set (H.length + 1) x = H ++ a :: x :: L := set_app H (a :: b :: L) 1 x
theorem sa2 {α : Type} (H L : List α) (a b c x : α) : (H ++ a :: b :: c :: L).set (H.length + 2) x = H ++ a :: b :: x :: L := set_app H (a :: b :: c :: L) 2 x
theorem sa3 {α : Type} (H L : List α) (a b c d x : α) : (H ++ a :: b :: c :: d :: L).set (H.length + 3) x = H ++ a :: b :: c :: x :: L := set_app H (a :: b :: c :: d :: L) 3 x
theorem sa4 {α : Type} (H L : List α) (a b c d e x : α) : (H ++ a :: b :: c :: d :: e :: L).set (H.length + 4) x = H ++ a :: b :: c :: d :: x :: L := set_app H (a :: b :: c :: d :: e :: L) 4 x
theorem sa5 {α : Type} (H L : List α) (a b c d e f x : α) : (H ++ a :: b :: c :: d :: e :: f :: L).set (H.length + 5) x = H ++ a :: b :: c :: d :: e :: x :: L := set_app H (a :: b :: c :: d :: e :: f :: L) 5 x

end Go.Abs
