/-
  Stores, literals of slices, make. Plain theorems; no function of the program is named here.
-/
import Derived.Test.YtnioiijcmdnhaaaVMem
set_option linter.all false
namespace Go.Proofs.Ytnioiijcmdnhaaa.V
open Go Go.RowKit

section
variable {P : Program} {Γ : TEnv} {n : Nat} {F0 : Fx} {w0 w w' : World} {σ σ' : Sg} {S S' : Nat → Prop} {s s' : AS} {a : Act}

/-- Names are read for good until none is left. -/
theorem plain_ok {k : AS → AV → Prop} : ∀ (f : Nat) {s : AS} {S : Nat → Prop} {x : AV} {v : Value}, Rel n F0 w0 σ S s a w → RepV w S σ x v → plain s x k f →
    ∃ s' x' S', k s' x' ∧ Rel n F0 w0 σ S' s' a w ∧ RepV w S' σ x' v ∧ refAV x' = none ∧ (∀ b, S b → S' b)
  | 0, s, S, x, v, _, _, h => by simp [plain] at h
  | f + 1, s, S, x, v, hr, hx, h => by
    simp only [plain] at h
    cases hx1 : refAV x with
    | none => rw [hx1] at h; exact ⟨s, x, S, h, hr, hx, hx1, fun _ h => h⟩
    | some id =>
      rw [hx1] at h
      simp only at h
      cases he : get s.h id with
      | none => rw [he] at h; simp at h
      | some e =>
        rw [he] at h
        obtain ⟨m, hm, hen⟩ := hr.ents id e he
        have hS : ∀ b, S b → (S b ∨ m.g = some b) := fun b hb => .inl hb
        have hg : ∀ g, m.g = some g → (S g ∨ m.g = some g) := fun g hg => .inr hg
        cases e with
        | lini t kk l =>
          simp only at h
          obtain ⟨s', x', S', h1, h2, h3, h4, h5⟩ := plain_ok f (hr.frz he hm (.inl ⟨t, kk, l, rfl⟩)) (RepV.frz hm hen (.inl ⟨t, kk, l, rfl⟩) hS hg hx) h
          exact ⟨s', x', S', h1, h2, h3, h4, fun b hb => h5 b (.inl hb)⟩
        | linr t T l =>
          simp only at h
          obtain ⟨s', x', S', h1, h2, h3, h4, h5⟩ := plain_ok f (hr.frz he hm (.inr ⟨t, T, l, rfl⟩)) (RepV.frz hm hen (.inr ⟨t, T, l, rfl⟩) hS hg hx) h
          exact ⟨s', x', S', h1, h2, h3, h4, fun b hb => h5 b (.inl hb)⟩
        | _ => simp at h
theorem bytes_SI {x : AV} {l : List Int} {v : Value} (hx : Rep w S σ x [v]) (h : bytesOf x = some l) : ∃ A c, v = .slice A l.length c ∧ SI w S A c .u8 l := by
  cases x with
  | nil => simp only [bytesOf] at h; cases h; simp only [Rep, List.cons.injEq, and_true] at hx; exact ⟨none, 0, hx, Nat.le_refl _, Nat.zero_le _, by simp, Row.nil⟩
  | ints f kk l' =>
    simp only [bytesOf] at h
    cases hk : kbeq kk .u8 with
    | false => rw [hk] at h; cases h
    | true =>
      rw [hk] at h
      cases h
      have := kbeq_true hk
      subst this
      simp only [Rep, List.cons.injEq, and_true] at hx
      obtain ⟨A, c, e, h1, _⟩ := hx
      exact ⟨A, c, e, h1⟩
  | _ => simp [bytesOf] at h
/-- A value that is an element. -/
theorem dec_ok {T : Nat} {cs : List AV} {us : List Value} {rc : Rec} (hr : RepL w S σ cs (us.map ([·]))) (h : dec T (oneOf cs) = some rc) : RecRep w S T rc us := by
  cases T with
  | zero =>
    simp only [dec] at h
    split at h
    · rename_i a f b c d y heq
      cases hb : bytesOf y with
      | none => rw [hb] at h; cases h
      | some l =>
        rw [hb] at h
        cases h
        have hcs : cs = [.int .u32 a, .bool f, .int .i64 b, .int .i64 c, .int .i64 d, y] := by
          match cs, heq with
          | [], heq => simp [oneOf] at heq
          | [x], heq =>
            simp only [oneOf] at heq
            subst heq
            -- one cell that is an aggregate: no value
            exfalso
            simp only [RepL] at hr
            obtain ⟨c1, css', e1, h1, e0⟩ := hr
            subst e0
            match us, e1 with
            | [u], e1 =>
              simp only [List.map_cons, List.map_nil, List.cons.injEq, and_true] at e1
              subst e1
              simp only [Rep, RepL] at h1
              obtain ⟨_, ⟨_, _, rfl, ⟨rfl, _⟩, _, _, rfl, rfl, _⟩, e2⟩ := h1
              simp at e2
          | _ :: _ :: _, heq => simpa [oneOf] using heq
        subst hcs
        simp only [RepL] at hr
        obtain ⟨c1, r1, e1, g1, c2, r2, e2, g2, c3, r3, e3, g3, c4, r4, e4, g4, c5, r5, e5, g5, c6, r6, e6, g6, e7⟩ := hr
        subst e7 e6 e5 e4 e3 e2
        match us, e1 with
        | [u1, u2, u3, u4, u5, u6], e1 =>
          simp only [List.map_cons, List.map_nil, List.cons.injEq, and_true] at e1
          obtain ⟨rfl, rfl, rfl, rfl, rfl, rfl⟩ := e1
          simp only [Rep, List.cons.injEq, and_true] at g1 g2 g3 g4 g5
          obtain ⟨rfl, i1⟩ := g1
          subst g2
          obtain ⟨rfl, i3⟩ := g3
          obtain ⟨rfl, i4⟩ := g4
          obtain ⟨rfl, i5⟩ := g5
          obtain ⟨A, c', rfl, hsi⟩ := bytes_SI g6 hb
          exact ⟨A, c', rfl, i1, i3, i4, i5, hsi⟩
    · cases h
  | succ T =>
    simp only [dec] at h
    cases hb : bytesOf (oneOf cs) with
    | none => rw [hb] at h; cases h
    | some l =>
      rw [hb] at h
      cases h
      match cs, hb with
      | [x], hb =>
        simp only [oneOf] at hb
        simp only [RepL] at hr
        obtain ⟨c1, css', e1, h1, e2⟩ := hr
        subst e2
        match us, e1 with
        | [u], e1 =>
          simp only [List.map_cons, List.map_nil, List.cons.injEq, and_true] at e1
          subst e1
          obtain ⟨A, c', rfl, hsi⟩ := bytes_SI h1 hb
          exact ⟨A, c', rfl, hsi⟩
      | [], hb => simp [oneOf, bytesOf] at hb
      | _ :: _ :: _, hb => simp [oneOf, bytesOf] at hb
theorem over_splice : ∀ (us vs : List Value) (j : Nat), j + us.length ≤ vs.length → over vs j us = vs.take j ++ us ++ vs.drop (j + us.length)
  | [], vs, j, _ => by simp [over]
  | u :: us, vs, j, h => by
    simp only [List.length_cons] at h
    simp only [over]
    rw [over_splice us (vs.set j u) (j + 1) (by simp; omega)]
    have h1 : (vs.set j u).take (j + 1) = vs.take j ++ [u] := by
      rw [List.take_add_one]
      simp [List.take_set_of_le, List.getElem?_set, show j < vs.length by omega]
    have h2 : (vs.set j u).drop (j + 1 + us.length) = vs.drop (j + (u :: us).length) := by
      rw [List.drop_set_of_lt (by omega)]
      simp only [List.length_cons]
      congr 1
      omega
    rw [h1, h2]
    simp
theorem splice_over {cs : Array Value} {off : Nat} {us : List Value} (h : off + us.length ≤ cs.size) : splice cs off us = (over cs.toList off us).toArray := by
  rw [over_splice us cs.toList off (by simpa using h)]
  rfl
theorem set_over (vs : List Value) (j : Nat) (u : Value) : over vs j [u] = vs.set j u := rfl
theorem setCells_of {l xs l' : List AV} {j : Nat} (h : setCells l j xs = some l') : l' = V.setAt l j xs ∧ j + cnt xs ≤ cnt l := by
  unfold setCells at h
  cases hb : Nat.ble (j + cnt xs) (cnt l) with
  | false => rw [hb] at h; cases h
  | true => rw [hb] at h; cases h; exact ⟨rfl, Nat.le_of_ble_eq_true hb⟩
theorem setAt_cnt : ∀ (xs l : List AV) (j : Nat), cnt (V.setAt l j xs) = cnt l
  | [], l, j => rfl
  | x :: xs, l, j => by
    simp only [V.setAt]
    rw [setAt_cnt xs]
    rw [cnt_len, cnt_len, setV_eq]
    simp
theorem take_over {us vs : List Value} {off q : Nat} (h : off + us.length ≤ q) (hq : q ≤ vs.length) : (over vs off us).take q = over (vs.take q) off us := by
  rw [over_splice us vs off (by omega), over_splice us (vs.take q) off (by simp; omega)]
  have hA : (vs.take off ++ us).length = off + us.length := by simp; omega
  rw [List.take_append (l₁ := vs.take off ++ us), List.take_of_length_le (by omega), hA, List.take_take, Nat.min_eq_left (by omega), List.drop_take]
theorem flat_over (es : Nat) (css : List (List Value)) (hes : ∀ cs ∈ css, cs.length = es) {i j : Nat} {cs us : List Value} (hi : css[i]? = some cs) (hj : j + us.length ≤ es) :
    over css.flatten (i * es + j) us = (css.set i (over cs j us)).flatten := by
  induction css generalizing i with
  | nil => simp at hi
  | cons c css ih =>
    have hc : c.length = es := hes c (List.mem_cons_self ..)
    cases i with
    | zero =>
      simp at hi
      subst hi
      simp only [Nat.zero_mul, Nat.zero_add, List.flatten_cons, List.set_cons_zero]
      rw [over_splice us _ j (by simp; omega), over_splice us c j (by omega)]
      rw [List.take_append_of_le_length (by omega), List.drop_append_of_le_length (by omega)]
      simp
    | succ i =>
      have ih' := ih (fun cs h => hes cs (List.mem_cons_of_mem _ h)) (i := i) (by simpa using hi)
      simp only [List.flatten_cons, List.set_cons_succ]
      rw [← ih']
      have hl : i * es + j + us.length ≤ css.flatten.length := by
        rw [flat_len es css (fun cs h => hes cs (List.mem_cons_of_mem _ h))]
        have hlt : i < css.length := (List.getElem?_eq_some_iff.1 (by simpa using hi)).1
        have : (i + 1) * es ≤ css.length * es := Nat.mul_le_mul_right _ hlt
        rw [Nat.succ_mul] at this
        omega
      have e1 : (i + 1) * es + j = c.length + (i * es + j) := by rw [Nat.succ_mul, hc]; omega
      rw [e1, over_splice us (c ++ css.flatten) _ (by rw [List.length_append]; omega), over_splice us css.flatten _ hl]
      rw [List.take_append, List.drop_append, List.take_of_length_le (by omega), List.drop_eq_nil_of_le (by omega)]
      have e2 : c.length + (i * es + j) - c.length = i * es + j := by omega
      have e3 : c.length + (i * es + j) + us.length - c.length = i * es + j + us.length := by omega
      rw [e2, e3]
      simp

/-- The block that a name stands for. -/
def OfId (σ : Sg) (id : Nat) (b : Nat) : Prop := ∃ m, σ id = some m ∧ m.g = some b
theorem store_ok (hΓ : TOk P Γ) (hr : Rel n F0 w0 σ S s a w) {t : TypeId} {x y : Operand} {k : AS → Prop} (C : Oracle) (pm : FuncId → Option Pm) (h : wop Γ C pm s none (.store t x y) k) :
    ∃ s', k s' ∧ Does P n F0 w0 σ a w none (.store t x y) (fun b => ∃ id ∈ modsStore s x, OfId σ id b) s' := by
  simp only [wop] at h
  cases hx : aval s x with
  | none => rw [hx] at h; simp at h
  | some xa =>
    cases hy : aval s y with
    | none => rw [hx, hy] at h; simp at h
    | some v =>
      cases ht : tget Γ t with
      | none => rw [hx, hy, ht] at h; simp at h
      | some ti =>
        rw [hx, hy, ht] at h
        simp only at h
        have hti := hΓ t ti ht
        cases hfit : fits v ti.size with
        | false => rw [hfit] at h; simp at h
        | true =>
          rw [hfit] at h
          obtain ⟨hf, hcn⟩ := fits_of hfit
          have hrx := aval_ok hr hx
          have hry := aval_ok hr hy
          obtain ⟨us, hu1, hu2, hu3, hu4, hu5⟩ := cells_ok hry hf
          unfold storeOp at h
          cases xa with
          | ptr id i j =>
            simp only at h
            simp only [RepV, RepV0, Rep, List.cons.injEq, and_true] at hrx
            obtain ⟨m, g, hm, hg, hxe⟩ := hrx
            cases he : get s.h id with
            | none => rw [he] at h; simp at h
            | some en =>
              rw [he] at h
              obtain ⟨m', hm', hen⟩ := hr.ents id en he
              rw [hm] at hm'
              cases hm'
              have hsz : (P.info? t).map (·.size) = some (a.eval y).cells.size := by rw [sizeT hti, hu1]; simp; omega
              have hM : ∀ b, m.g = some b → ∃ id' ∈ modsStore s x, OfId σ id' b := fun b hb => ⟨id, by simp [modsStore, hx], m, hm, hb⟩
              -- the model's step
              have hrun : ∀ (cur : Array Value) (t' : TypeId), Blk w g t' cur → i * m.es + j + us.length ≤ cur.size → ∀ o : Oper, o.op = .store t x y →
                  (execOp a.eval o).run P w = .ok .skip (w.setRow g (splice cur (i * m.es + j) us)) := by
                intro cur t' hb hle o ho
                have := run_storeVar_blk (P := P) (ty := t) (off := i * m.es + j) (v := a.eval y) hb hsz (by rw [hu1]; simpa using hle) (by rw [hu1]; simpa using hu3)
                rw [hu1] at this
                simp only [execOp, ho, hxe, Instr.storeAt, Instr.sureAddr, Sem.run_bind, Sem.run_pure, Result.andThen_ok, this]
              have hfr : ∀ (cur : Array Value), Fr (fun b => m.g = some b) w (w.setRow g cur) := fun cur => (fr_grown (grown_setRow cur)).weak fun b hb => by rw [hg]; exact hb
              have hkeep : ∀ (S : Nat → Prop) (cur : Array Value), (∀ b, S b → b < w.heap.size ∧ b ≠ g) → ∀ b o, S b → (w.setRow g cur).cell? ⟨b, o, none⟩ = w.cell? ⟨b, o, none⟩ := by
                intro S cur hS b o hb
                have := (hfr cur).block b (hS b hb).1 (fun e => (hS b hb).2 (by rw [hg] at e; cases e; rfl))
                simp [World.cell?, this]
              have hap : ∀ b, S b → b < w.heap.size ∧ b ≠ g := fun b hb => ⟨hr.Sold b hb, fun e => hr.apart id en m g he hm hg (e ▸ hb)⟩
              cases en with
              | box t' l =>
                simp only at h
                cases hs : setCells l (i + j) (cellsOf v) with
                | none => rw [hs] at h; cases h
                | some l' =>
                  rw [hs] at h
                  obtain ⟨rfl, hle⟩ := setCells_of hs
                  simp only [EntR] at hen
                  obtain ⟨g', css, e1, e2, e3, e4, e5, e6, e7, e8⟩ := hen
                  rw [hg] at e1
                  cases e1
                  have e6' := e6
                  rw [singles e7] at e6'
                  have hlen := RepL.length e6'
                  simp only [List.length_map] at hlen
                  have hle' : i * m.es + j + us.length ≤ css.flatten.toArray.size := by rw [e2, List.size_toArray]; omega
                  refine ⟨_, h, (does_skip (hrun _ _ e8 hle') (hr.write he hm (hfr _) ?_) (hfr _)).mono hM⟩
                  unfold EntR
                  refine ⟨g, (over css.flatten (i + j) us).map ([·]), hg, e2, by rw [setAt_cnt]; exact e3, by rw [setAt_cnt]; exact e4, by rw [setAt_cnt]; exact e5, ?_, ?_, ?_⟩
                  · exact RepL.setAt _ us _ _ _ (RepL.keep _ _ e6' (hkeep S _ hap) fun _ h => h) (RepL.keep _ _ hu2 (hkeep S _ hap) fun _ h => h)
                  · intro cs hcs
                    obtain ⟨u, _, rfl⟩ := List.mem_map.1 hcs
                    rfl
                  · rw [flat_singles, splice_over hle', e2, Nat.mul_one]
                    exact blk_setRow e8 _
              | lini t' kk l =>
                simp only at h
                cases hj : Nat.beq j 0 with
                | false => rw [hj] at h; cases v <;> simp at h
                | true =>
                  have := beq_true hj
                  subst this
                  rw [hj] at h
                  cases v with
                  | int kk' q =>
                    simp only at h
                    cases hk : kbeq kk kk' with
                    | false => rw [hk] at h; cases h
                    | true =>
                      have := kbeq_true hk
                      subst this
                      rw [hk] at h
                      obtain ⟨hlt, h⟩ := chk_some h
                      have hlt' : i < l.length := by simpa using hlt
                      obtain ⟨hye, hin⟩ := Rep1.int hry
                      have hus := hu5 rfl
                      rw [hye] at hus
                      subst hus
                      simp only [EntR] at hen
                      obtain ⟨e1, e2, e3, e4, e5, e6, e7⟩ := hen
                      obtain ⟨cur, hb, hc, htk⟩ := e7 g hg
                      have hle' : i * m.es + 0 + ([Value.int kk q] : List Value).length ≤ cur.size := by rw [e1, hc]; simp; omega
                      refine ⟨_, h, (does_skip (hrun _ _ hb hle') (hr.write he hm (hfr _) ?_) (hfr _)).mono hM⟩
                      unfold EntR
                      refine ⟨e1, by simp [e2], e3, e4, fun z hz => ?_, e6, fun g' hg' => ?_⟩
                      · rcases List.mem_or_eq_of_mem_set hz with hz | rfl
                        · exact e5 z hz
                        · exact hin
                      · rw [hg] at hg'
                        cases hg'
                        refine ⟨_, blk_setRow hb _, ?_, ?_⟩
                        · rw [splice_over hle', List.size_toArray, over_length]
                          simpa using hc
                        · rw [splice_over hle', e1]
                          simp only [Nat.mul_one, Nat.add_zero, set_over] at htk ⊢
                          rw [List.take_set, htk, List.map_set]
                  | _ => simp at h
              | linr t' T l =>
                simp only at h
                obtain ⟨s1, v1, S1, h1, h2, h3, h4, h5⟩ := plain_ok 9 hr hry h
                cases he1 : get s1.h id with
                | none => rw [he1] at h1; simp at h1
                | some en1 =>
                  rw [he1] at h1
                  obtain ⟨m1, hm1, hen1⟩ := h2.ents id en1 he1
                  rw [hm] at hm1
                  cases hm1
                  cases en1 with
                  | linr t1 T1 l1 =>
                    simp only at h1
                    cases hsc : setCells (cellsOf (enc T1 (l1.getD i default))) j (cellsOf v1) with
                    | none => rw [hsc] at h1; cases h1
                    | some cs =>
                      rw [hsc] at h1
                      simp only at h1
                      cases hdc : dec T1 (oneOf cs) with
                      | none => rw [hdc] at h1; cases h1
                      | some rc =>
                        rw [hdc] at h1
                        simp only at h1
                        cases hfl : flat v1 with
                        | false => rw [hfl] at h1; cases h1
                        | true =>
                            rw [hfl] at h1
                            obtain ⟨hlt, h1⟩ := chk_some h1
                            have hi1 : i < l1.length := by simpa using hlt
                            obtain ⟨us1, q1, q2, q3, q4, q5⟩ := cells_ok h3 hfl
                            have hus1 : us1 = us := by rw [hu1] at q1; simpa using q1.symm
                            subst hus1
                            obtain ⟨rfl, hle⟩ := setCells_of hsc
                            simp only [EntR] at hen1
                            obtain ⟨e1, e2, e3, e4, e6, e7⟩ := hen1
                            obtain ⟨cur, css, hb, hcz, hrr, htk⟩ := e7 g hg
                            obtain ⟨c0, hc0, hrec⟩ := hrr.at_ i hi1
                            have hl0 := hrec.len
                            have hcl := RepL.length (rec_cells (σ := σ) hrec)
                            simp only [List.length_map] at hcl
                            have hin : i * esz T1 + esz T1 ≤ m.n * esz T1 := by
                              rw [← Nat.succ_mul]
                              exact Nat.mul_le_mul_right _ (by omega)
                            have hcap : m.n * esz T1 ≤ m.cap * esz T1 := Nat.mul_le_mul_right _ e3
                            have hle' : i * m.es + j + us1.length ≤ cur.size := by rw [e1, hcz]; omega
                            have hap1 : ∀ b, S1 b → b < w.heap.size ∧ b ≠ g := fun b hb' => ⟨h2.Sold b hb', fun e => h2.apart id _ m g he1 hm hg (e ▸ hb')⟩
                            refine ⟨_, h1, (does_skip (hrun _ _ hb hle') (h2.write he1 hm (hfr _) ?_) (hfr _)).mono hM⟩
                            have hnew : RecRep w S1 T1 rc (over c0 j us1) := dec_ok (σ := σ) (RepL.setAt _ us1 _ _ j (rec_cells hrec) q2) hdc
                            unfold EntR
                            refine ⟨e1, by simp [e2], e3, e4, e6, fun g' hg' => ?_⟩
                            rw [hg] at hg'
                            cases hg'
                            refine ⟨_, css.set i (over c0 j us1), blk_setRow hb _, ?_, ?_, ?_⟩
                            · rw [splice_over hle', List.size_toArray, over_length]
                              simpa using hcz
                            · exact (hrr.set i hnew).keep (hkeep S1 _ hap1) fun _ h => h
                            · rw [splice_over hle', e1, List.toList_toArray, take_over (by omega) (by simp; omega), htk]
                              exact flat_over (esz T1) css hrr.es hc0 (by omega)
                  | _ => simp at h1
              | _ => simp at h
          | _ => simp at h
end
end Go.Proofs.Ytnioiijcmdnhaaa.V
