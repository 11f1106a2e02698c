/-
  Code: what the evaluator gives holds of the model. Plain theorems; no function of the program is named here.
-/
import Derived.Test.YtnioiijcmdnhaaaVRun
import Derived.LoopN
set_option linter.all false
namespace Go.Proofs.Ytnioiijcmdnhaaa.V
open Go Go.RowKit

section
variable {P : Program} {c : Cfg} {n : Nat} {F0 : Fx} {w0 w w' : World} {σ σ' : Sg} {S S' : Nat → Prop} {s s' : AS} {a : Act}

theorem Rel.drew (h : Rel n F0 w0 σ S s a w) : Rel n F0 w0 σ S s a w.drew :=
  h.world (fun _ _ _ => rfl) (fun _ _ _ _ _ _ _ => rfl) (Nat.le_refl _) ⟨h.fr.os, h.fr.tape, h.fr.output, h.fr.size, h.fr.block⟩

/-! ### the head of a loop -/
def LV (σ : Sg) (a : Act) (w : World) (v : Value) : Loc → Prop
  | .t k => a.tmps[k]? = some v
  | .c id j => ∃ m g, σ id = some m ∧ m.g = some g ∧ w.cell? ⟨g, j, none⟩ = some v
theorem loc_val (hr : Rel n F0 w0 σ S s a w) {lc : Loc} {x : AV} (h : locGet s lc = some x) : ∃ v, LV σ a w v lc ∧ RepV w S σ x v ∧ (∀ id j, lc = .c id j → isCell x = true) := by
  cases lc with
  | t k => obtain ⟨v, hv, hx⟩ := hr.slots k x h; exact ⟨v, hv, hx, fun _ _ h => by cases h⟩
  | c id j =>
    simp only [locGet] at h
    cases he : get s.h id with
    | none => rw [he] at h; cases h
    | some e =>
      rw [he] at h
      cases e with
      | box t l =>
        simp only at h
        cases hn : nth l j with
        | none => rw [hn] at h; cases h
        | some y =>
          rw [hn] at h
          simp only at h
          cases hc : isCell y with
          | false => rw [hc] at h; cases h
          | true =>
            rw [hc] at h
            cases h
            obtain ⟨m, hm, hen⟩ := hr.ents id _ he
            simp only [EntR] at hen
            obtain ⟨g, css, e1, e2, e3, e4, e5, e6, e7, e8⟩ := hen
            have e6' := e6
            rw [singles e7] at e6'
            obtain ⟨v, hv, hx⟩ := RepL.nth j e6' hn
            refine ⟨v, ⟨m, g, hm, e1, by rw [e8.cell]; simpa using hv⟩, RepV_of_Rep hx (fun l e => by subst e; simp [isCell] at hc), fun _ _ _ => hc⟩
      | _ => simp at h
theorem Rep_of_RepV {x : AV} {v : Value} (h : RepV w S σ x v) (hc : isCell x = true) (hf : flat x = true) : Rep w S σ x [v] := by
  cases x with
  | agg l => simp [isCell] at hc
  | tup l => simp [flat] at hf
  | undef => simp [flat] at hf
  | _ => exact h
theorem loc_put (hr : Rel n F0 w0 σ S s a w) {lc : Loc} {v : Value} (hl : LV σ a w v lc) {z : AV} (hz : RepV w S σ z v) (hcell : ∀ id j, lc = .c id j → isCell z = true ∧ flat z = true) : Rel n F0 w0 σ S (locPut s z lc) a w := by
  cases lc with
  | t k => exact hr.tset hl hz
  | c id j =>
    obtain ⟨hc, hf⟩ := hcell id j rfl
    simp only [locPut]
    cases he : get s.h id with
    | none => exact hr
    | some e =>
      cases e with
      | box t l =>
        simp only
        obtain ⟨m, hm, hen⟩ := hr.ents id _ he
        obtain ⟨m', g', hm', hg', hv⟩ := hl
        rw [hm] at hm'
        cases hm'
        refine hr.write he hm (Fr.refl _ _) ?_
        simp only [EntR] at hen
        obtain ⟨g, css, e1, e2, e3, e4, e5, e6, e7, e8⟩ := hen
        rw [hg'] at e1
        cases e1
        have hlen : cnt (setV l j z) = cnt l := by rw [cnt_len, cnt_len, setV_eq]; simp
        unfold EntR
        refine ⟨g', css.set j [v], hg', e2, by rw [hlen]; exact e3, by rw [hlen]; exact e4, by rw [hlen]; exact e5, RepL.set _ _ j e6 (Rep_of_RepV hz hc hf), ?_, ?_⟩
        · intro cs hcs
          rcases List.mem_or_eq_of_mem_set hcs with hcs | rfl
          · exact e7 cs hcs
          · rfl
        · have h1 : css.set j [v] = css := by
            rw [singles e7, ← List.map_set]
            congr 1
            rw [e8.cell] at hv
            have hv' : css.flatten[j]? = some v := by simpa using hv
            obtain ⟨hlt, hvv⟩ := List.getElem?_eq_some_iff.1 hv'
            rw [← hvv]
            exact List.set_getElem_self hlt
          rw [h1]
          exact e8
      | _ => exact hr
theorem canon_cell {sh : Shp} {x z : AV} (h : canon sh x = some z) : flat z = true ∨ ∃ l, z = .agg l := by
  cases z with
  | agg l => exact .inr ⟨l, rfl⟩
  | tup l => cases sh <;> cases x <;> simp [canon] at h <;> (try split at h) <;> (try cases h)
  | undef => cases sh <;> cases x <;> simp [canon] at h <;> (try split at h) <;> (try cases h)
  | _ => exact .inl rfl
/-- A name for an empty row. -/
theorem nil_ent {sh : Shp} {e : AV} (h : nilEnt sh = some e) : ∃ es, ∀ w S σ, EntR w S σ e ⟨none, es, 0, 0⟩ := by
  cases sh with
  | li t k =>
    simp only [nilEnt] at h
    cases h
    refine ⟨1, fun w S σ => ?_⟩
    unfold EntR
    exact ⟨rfl, rfl, Nat.le_refl _, Nat.zero_le _, by simp, fun _ => rfl, fun g hg => by cases hg⟩
  | lr t T =>
    simp only [nilEnt] at h
    cases h
    refine ⟨esz T, fun w S σ => ?_⟩
    unfold EntR
    exact ⟨rfl, rfl, Nat.le_refl _, Nat.zero_le _, fun _ => rfl, fun g hg => by cases hg⟩
  | _ => simp [nilEnt] at h
theorem LV.upd {id : Nat} {m : Mb} {lc : Loc} {v : Value} (h : LV σ a w v lc) (hl : locIs id lc = false) : LV (upd σ id m) a w v lc := by
  cases lc with
  | t k => exact h
  | c i j =>
    obtain ⟨m', g, h1, h2, h3⟩ := h
    have : i ≠ id := beq_false hl
    exact ⟨m', g, by simp [V.upd, this]; exact h1, h2, h3⟩
theorem norm1_ok (hr : Rel n F0 w0 σ S s a w) {lc : Loc} {kp : Keep} {k : AS → Prop} (h : norm1 s lc kp k) : ∃ s' σ' S', k s' ∧ Rel n F0 w0 σ' S' s' a w := by
  unfold norm1 at h
  cases hx : locGet s lc with
  | none => rw [hx] at h; cases h
  | some x =>
    rw [hx] at h
    simp only at h
    obtain ⟨v, hlv, hrv, hcl⟩ := loc_val hr hx
    cases kp with
    | ptr => exact ⟨s, σ, S, h, hr⟩
    | shp sh =>
      simp only at h
      obtain ⟨s1, y, S1, h1, h2, h3, _, _⟩ := plain_ok 9 hr hrv h
      unfold canonK at h1
      cases hc : canon sh y with
      | none => rw [hc] at h1; cases h1
      | some z =>
        rw [hc] at h1
        simp only at h1
        have hz := RepV.of0 (canon_ok hc h3)
        cases lc with
        | t q => cases hi : isCell z <;> (rw [hi] at h1; exact ⟨_, σ, S1, h1, loc_put h2 hlv hz (fun _ _ e => by cases e)⟩)
        | c id j =>
          cases hi : isCell z with
          | false => rw [hi] at h1; cases h1
          | true =>
            rw [hi] at h1
            refine ⟨_, σ, S1, h1, loc_put h2 hlv hz (fun _ _ _ => ⟨hi, ?_⟩)⟩
            rcases canon_cell hc with hf | ⟨l, rfl⟩
            · exact hf
            · simp [isCell] at hi
    | own id sh =>
      simp only at h
      cases hli : locIs id lc with
      | true => rw [hli] at h; cases h
      | false =>
        rw [hli] at h
        simp only at h
        cases hie : Nat.beq id E0 with
        | true => rw [hie] at h; cases h
        | false =>
        rw [hie] at h
        cases x with
        | nil =>
          simp only at h
          cases hn : nilEnt sh with
          | none => rw [hn] at h; cases h
          | some e =>
            rw [hn] at h
            obtain ⟨es, hes⟩ := nil_ent hn
            have hr1 := hr.add (d := id) (m := ⟨none, es, 0, 0⟩) (beq_false hie) (hes _ _ _) (fun g hg => by cases hg)
            have hv : v = .slice none 0 0 := by simpa only [RepV, RepV0, Rep, List.cons.injEq, and_true] using hrv
            refine ⟨_, _, S, h, loc_put hr1 (hlv.upd hli) ?_ (fun _ _ _ => ⟨rfl, rfl⟩)⟩
            rw [hv]
            exact rep_ownf
        | ownf i =>
          simp only at h
          cases hii : Nat.beq i id with
          | true => rw [hii] at h; exact ⟨s, σ, S, h, hr⟩
          | false =>
            rw [hii] at h
            simp only at h
            cases he : get s.h i with
            | none => rw [he] at h; simp at h
            | some e =>
              cases hl2 : locIs i lc with
              | true => rw [he, hl2] at h; simp at h
              | false =>
                rw [he, hl2] at h
                simp only at h
                cases hre : entRef e with
                | some _ => rw [hre] at h; cases h
                | none =>
                  rw [hre] at h
                  simp only at h
                  obtain ⟨m, hm, hen⟩ := hr.ents i e he
                  have hv : v = .slice (m.addr 0) m.n m.cap := by
                    simp only [RepV, RepV0, Rep, List.cons.injEq, and_true] at hrv
                    obtain ⟨m', hm', e1⟩ := hrv
                    rw [hm] at hm'
                    cases hm'
                    exact e1
                  have kk : ∀ i2 y, get (s.kill i).h i2 = some y → ∃ y0, i2 ≠ i ∧ get s.h i2 = some y0 := by
                    intro i2 y hy
                    simp only [AS.kill, get_emap, get_del] at hy
                    by_cases hd : i = i2
                    · rw [if_pos hd] at hy; cases hy
                    · rw [if_neg hd] at hy
                      cases h0 : get s.h i2 with
                      | none => rw [h0] at hy; cases hy
                      | some y0 => exact ⟨y0, Ne.symm hd, rfl⟩
                  have hr0 := hr.kill i (σ' := σ) (fun _ _ => rfl)
                  have hr1 := hr0.add (d := id) (m := m) (beq_false hie) (EntR.free hre hen) (fun g hg => ⟨hr.apart i e m g he hm hg, hr.old i e m g he hm hg, fun i2 y m2 h1 _ h2 h3 => by
                    obtain ⟨y0, hne, hy0⟩ := kk i2 y h1
                    exact hne (hr.inj i2 i y0 e m2 m g hy0 he h2 hm h3 hg)⟩)
                  refine ⟨_, _, S, h, loc_put hr1 (hlv.upd hli) ?_ (fun _ _ _ => ⟨rfl, rfl⟩)⟩
                  rw [hv]
                  exact rep_ownf
        | _ => simp at h
theorem normL_ok : ∀ (kps : List (Loc × Keep)) {s : AS} {σ : Sg} {S : Nat → Prop} {k : AS → Prop}, Rel n F0 w0 σ S s a w → normL s k kps → ∃ s' σ' S', k s' ∧ Rel n F0 w0 σ' S' s' a w
  | [], s, σ, S, k, hr, h => ⟨s, σ, S, h, hr⟩
  | (lc, kp) :: kps, s, σ, S, k, hr, h => by
    simp only [normL] at h
    obtain ⟨s1, σ1, S1, h1, h2⟩ := norm1_ok hr h
    exact normL_ok kps h2 h1
theorem norm_ok (hr : Rel n F0 w0 σ S s a w) {kps : List (Loc × Keep)} {k : AS → Prop} (h : norm kps s k) : ∃ s' σ' S', k s' ∧ Rel n F0 w0 σ' S' s' a w := by
  unfold norm at h
  obtain ⟨s1, σ1, S1, h1, h2⟩ := normL_ok kps hr h
  exact ⟨_, σ1, S1, h1, h2.less (fun _ _ h => get_only h) (fun _ _ h => get_only h)⟩

/-! ### code -/
def exitOf : Out → Exit
  | .normal => .normal
  | .exit id => .exit id
  | .ret => .ret
/-- From s the code goes to some o and s' with k o s'. -/
def Tri (P : Program) (n : Nat) (code : Code) (s : AS) (k : Out → AS → Prop) : Prop :=
  ∀ (F0 : Fx) (w0 : World) (σ : Sg) (S : Nat → Prop) (a : Act) (w : World) (Q : Exit → Act → World → Prop), Rel n F0 w0 σ S s a w → (∀ o s' a' w' σ' S', k o s' → Rel n F0 w0 σ' S' s' a' w' → Q (exitOf o) a' w') → code.wp P Q a w
def loopsOf : Code → List Code
  | .seq a b => loopsOf a ++ loopsOf b
  | .cond _ a b => loopsOf a ++ loopsOf b
  | .block _ a => loopsOf a
  | .loop a => a :: loopsOf a
  | _ => []
def plOk (c : Cfg) : Code → Bool
  | .region id ops draw => match draw with
    | false => true
    | true => match c.plan id with
      | some p => Region.noSelect ops && tabOk .any ops p.tab && treeOk .any ops p.tab p.flags c.n p.tree (Array.replicate ops.size false) && lenT ops.size p.tree
      | none => true
  | .seq a b => plOk c a && plOk c b
  | .cond _ a b => plOk c a && plOk c b
  | .block _ a => plOk c a
  | .loop a => plOk c a
  | _ => true
theorem hidden_in {s : AS} : True := trivial
theorem exec_ok (hc : COk P c) (hm : P.follows .mixedOrders = true) : ∀ (code : Code), plOk c code = true → (∀ body ∈ loopsOf code, ∀ s k, c.L (keyOf body) s k → Tri P c.n (.loop body) s k) →
    ∀ {F0 : Fx} {w0 w : World} {s : AS} {a : Act} {σ : Sg} {S : Nat → Prop} {k : Out → AS → Prop} {Q : Exit → Act → World → Prop}, Rel c.n F0 w0 σ S s a w → exec c code s k →
      (∀ o s' a' w' σ' S', k o s' → Rel c.n F0 w0 σ' S' s' a' w' → Q (exitOf o) a' w') → code.wp P Q a w := by
  intro code
  induction code with
  | skip => intro _ _ F0 w0 w s a σ S k Q hr h hQ; exact wp_skip (hQ .normal _ _ _ σ S h hr)
  | region id ops draw =>
    intro hp _ F0 w0 w s a σ S k Q hr h hQ
    simp only [exec] at h
    cases draw with
    | false => exact wp_region_list (opsG_ok hc ops.toList hr h fun s' a' w' σ' S' h1 h2 => hQ .normal s' a' w' σ' S' h1 h2)
    | true =>
      simp only at h
      cases hpl : c.plan id with
      | none => rw [hpl] at h; cases h
      | some p =>
        rw [hpl] at h
        simp only at h
        cases hai : allIn s.h (hidden s p.hide) with
        | false => rw [hai] at h; cases h
        | true =>
          rw [hai] at h
          simp only at h
          simp only [plOk, hpl] at hp
          have key := treeG_ok (Q := fun e a' w' => e = .normal ∧ Q .normal a' w') hc p.tree hr.drew (fun id hid => ⟨allIn_of hai id hid, rfl⟩) h (fun s' a' w' σ' S' h1 h2 => ⟨rfl, hQ .normal s' a' w' σ' S' h1 h2⟩)
          refine wp_mono (wp_tree _ p.tree p.flags p.tab hm (by rw [hr.sz]; exact hp) (fun _ _ _ _ _ h => by cases h.1) key) ?_
          rintro e a' w' ⟨rfl, h⟩
          exact h
  | seq x y ihx ihy =>
    intro hp hL F0 w0 w s a σ S k Q hr h hQ
    simp only [plOk, Bool.and_eq_true] at hp
    simp only [exec] at h
    refine wp_seq (ihx hp.1 (fun b hb => hL b (by simp [loopsOf, hb])) hr h ?_)
    intro o s' a' w' σ' S' h1 h2
    cases o with
    | normal => exact ihy hp.2 (fun b hb => hL b (by simp [loopsOf, hb])) h2 h1 hQ
    | exit id => exact hQ (.exit id) s' a' w' σ' S' h1 h2
    | ret => exact hQ .ret s' a' w' σ' S' h1 h2
  | cond x y z ihy ihz =>
    intro hp hL F0 w0 w s a σ S k Q hr h hQ
    simp only [plOk, Bool.and_eq_true] at hp
    simp only [exec] at h
    cases hx : aval s x with
    | none => rw [hx] at h; cases h
    | some v =>
      rw [hx] at h
      have hrv := aval_ok hr hx
      cases v with
      | bool b =>
        simp only at h
        have hb := Rep1.bool hrv
        cases x with
        | tmp d =>
          simp only at h
          have hv : ∃ v, a.tmps[d]? = some v ∧ RepV w S σ (.bool b) v := hr.slots d _ hx
          obtain ⟨v, hv1, hv2⟩ := hv
          cases b with
          | true => exact wp_cond_true hb (ihy hp.1 (fun b hb => hL b (by simp [loopsOf, hb])) (hr.tset hv1 hv2) h hQ)
          | false => exact wp_cond_false hb (ihz hp.2 (fun b hb => hL b (by simp [loopsOf, hb])) (hr.tset hv1 hv2) h hQ)
        | _ => simp at h
      | _ => simp at h
  | block id x ihx =>
    intro hp hL F0 w0 w s a σ S k Q hr h hQ
    simp only [exec] at h
    refine wp_block (ihx hp hL hr h ?_)
    intro o s' a' w' σ' S' h1 h2
    cases o with
    | normal => exact hQ .normal s' a' w' σ' S' h1 h2
    | ret => exact hQ .ret s' a' w' σ' S' h1 h2
    | exit i =>
      simp only at h1
      simp only [exitOf, Exit.inBlock]
      cases hb : Nat.beq i id with
      | true =>
        rw [hb] at h1
        rw [if_pos (beq_true hb)]
        exact hQ .normal s' a' w' σ' S' h1 h2
      | false =>
        rw [hb] at h1
        rw [if_neg (beq_false hb)]
        exact hQ (.exit i) s' a' w' σ' S' h1 h2
  | loop x ihx =>
    intro hp hL F0 w0 w s a σ S k Q hr h hQ
    simp only [exec] at h
    cases hk : c.keep (keyOf x) with
    | some kps =>
      rw [hk] at h
      simp only at h
      obtain ⟨s1, σ1, S1, h1, h2⟩ := norm_ok hr h
      exact hL x (by simp [loopsOf]) s1 k h1 _ _ _ _ _ _ Q h2 hQ
    | none =>
      rw [hk] at h
      simp only at h
      -- rounds, one after another
      have hL' : ∀ body ∈ loopsOf x, ∀ s k, c.L (keyOf body) s k → Tri P c.n (.loop body) s k := fun b hb => hL b (by simp [loopsOf, hb])
      have key : ∀ (f : Nat) {s : AS} {a : Act} {w : World} {σ : Sg} {S : Nat → Prop}, Rel c.n F0 w0 σ S s a w → unrollG (exec c x) k f s → Code.rounds P x Q f a w := by
        intro f
        induction f with
        | zero => intro s a w σ S _ h; simp [unrollG] at h
        | succ f ih =>
          intro s a w σ S hr h
          simp only [unrollG] at h
          rw [rounds_succ]
          refine ihx hp hL' hr h ?_
          intro o s' a' w' σ' S' h1 h2
          cases o with
          | normal => exact ih h2 h1
          | exit i => exact hQ (.exit i) s' a' w' σ' S' h1 h2
          | ret => exact hQ .ret s' a' w' σ' S' h1 h2
      exact wp_loop_rounds _ (key _ hr h)
  | exit id => intro _ _ F0 w0 w s a σ S k Q hr h hQ; exact wp_exit (hQ (.exit id) _ _ _ σ S h hr)
  | ret => intro _ _ F0 w0 w s a σ S k Q hr h hQ; exact wp_ret (hQ .ret _ _ _ σ S h hr)
  | rangeFunc f ps x y _ _ => intro _ _ F0 w0 w s a σ S k Q hr h hQ; simp [exec] at h
  | scope x _ => intro _ _ F0 w0 w s a σ S k Q hr h hQ; simp [exec] at h
  | label l => intro _ _ F0 w0 w s a σ S k Q hr h hQ; simp [exec] at h
  | goto l => intro _ _ F0 w0 w s a σ S k Q hr h hQ; simp [exec] at h
  | refuse y => intro _ _ F0 w0 w s a σ S k Q hr h hQ; simp [exec] at h
end
end Go.Proofs.Ytnioiijcmdnhaaa.V
