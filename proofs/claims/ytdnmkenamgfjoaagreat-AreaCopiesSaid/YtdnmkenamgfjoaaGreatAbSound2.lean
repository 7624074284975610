/-
 Ab: '==' of values that are held against one another cell by cell.
-/
import Derived.Test.YtdnmkenamgfjoaaGreatAbSound1
import Derived.ChangeKeysEq
set_option linter.unusedSimpArgs false
set_option linter.unusedVariables false
namespace Go.Ab
set_option linter.unusedSectionVars false
variable [Inhabited TabBox]
open Go.RowKit
theorem aeqL_len : ∀ {ks : List CK} {xs ys : List Value} {b : Bool},aeqL ks xs ys = some b → xs.length = ks.length ∧ ys.length = ks.length
 | [],[],[],_,_ => ⟨rfl,rfl⟩
 | k :: ks,x :: xs,y :: ys,b,h => by
   simp only [aeqL] at h
   split at h
   ·rename_i h1 h2; simp [aeqL_len h2]
   ·cases h
 | [],[],_ :: _,_,h => by cases h
 | [],_ :: _,_,_,h => by cases h
 | _ :: _,[],_,_,h => by cases h
 | _ :: _,_ :: _,[],_,h => by cases h
theorem aeqL_append : ∀ {ks ks' : List CK} {xs ys xs' ys' : List Value} {b : Bool},xs.length = ks.length → ys.length = ks.length → aeqL (ks ++ ks') (xs ++ xs') (ys ++ ys') = some b →
  ∃ b1 b2,aeqL ks xs ys = some b1 ∧ aeqL ks' xs' ys' = some b2 ∧ b = (b1 && b2)
 | [], ks', [], [], xs', ys', b, _, _, h => ⟨true, b, rfl, h, by simp⟩
 | k :: ks, ks', x :: xs, y :: ys, xs', ys', b, hl, hl', h => by
   simp only [List.cons_append,aeqL] at h
   split at h
   ·rename_i a c h1 h2
    cases h
    obtain ⟨b1,b2,e1,e2,rfl⟩ := aeqL_append (by simpa using hl) (by simpa using hl') h2
    exact ⟨a && b1,b2,by simp [aeqL,h1,e1],e2,by simp [Bool.and_assoc]⟩
   ·cases h
 | [],_,[],_ :: _,_,_,_,_,h,_ => by cases h
 | [],_,_ :: _,_,_,_,_,h,_,_ => by cases h
 | _ :: _,_,[],_,_,_,_,h,_,_ => by cases h
 | _ :: _,_,_ :: _,[],_,_,_,_,h,_ => by cases h
def shape (P : Program) (t : TypeId) (cs : List Value) : Value :=
 match P.underlying t with
 | some (.struct _) | some (.array _ _) => .agg cs.toArray
 | _ => cs.headD undef
theorem run_part_shape {P : Program} {t : TypeId} {xs : Array Value} {off k : Nat} (hs : szOf P t = some k) (hu : (P.underlying t).isSome = true)
  (h1 : (match P.underlying t with | some (.struct _) | some (.array _ _) => True | _ => k = 1)) (hl : off + k ≤ xs.size) (w : World) :
  (part t xs off).run P w = .ok (shape P t ((xs.toList.drop off).take k)) w := by
 obtain ⟨d,hd⟩ := Option.isSome_iff_exists.1 hu
 have hsz := run_sizeOf' hs w
 have ht : (List.take k (List.drop off xs.toList)).toArray = xs.extract off (off + k) := by
  apply Array.ext'
  simp [List.take_drop]
 unfold part shape isAgg
 simp only [Sem.run_bind,run_und hd,Result.andThen_ok,hd]
 rw [hd] at h1
 cases d <;> simp only [Sem.run_pure,Result.andThen_ok,if_true,Bool.false_eq_true,if_false] at h1 ⊢
 all_goals first
  | (simp only [Sem.run_bind,hsz,Result.andThen_ok,Sem.run_pure,ht]; done)
  | (subst h1
     have hlt : off < xs.size := by omega
     simp [hlt,List.drop_eq_getElem_cons (show off < xs.toList.length by simpa using hlt)])
theorem eqTy_und {P : Program} {d : Nat} {t : TypeId} {n : List CK} (h : eqTy P d t = some n) : (P.underlying t).isSome = true ∧
  (match P.underlying t with | some (.struct _) | some (.array _ _) => True | _ => n.length = 1) := by
 cases d with
 | zero => cases h
 | succ d =>
   unfold eqTy at h
   split at h <;> first | (rename_i hu; simp only [hu] at h ⊢; cases h; exact ⟨rfl,rfl⟩) | (rename_i hu; simp [hu]; done) | cases h
section
variable {P : Program}
def EqAt' (P : Program) (D : Nat) (t : TypeId) (ks : List CK) : Prop := ∀ (cs ds : List Value) (b : Bool),aeqL ks cs ds = some b → ∀ w,(Op.equalIn D t (shape P t cs) (shape P t ds)).run P w = .ok b w
theorem take_drop_at {α : Type} (l : List α) (o k : Nat) : l.drop o = (l.drop o).take k ++ l.drop (o + k) := by
 rw [← List.drop_drop,List.take_append_drop]
theorem eqFs_run {D : Nat} {rec : TypeId → Option (List CK)} (hrec : ∀ t n,rec t = some n → EqAt' P D t n ∧ (P.underlying t).isSome = true ∧ (match P.underlying t with | some (.struct _) | some (.array _ _) => True | _ => n.length = 1))
  (xs ys : Array Value) : ∀ (fs : List Field) (o : Nat) (ks : List CK),eqFs P rec fs o = some ks → xs.size = o + ks.length → ys.size = o + ks.length → ∀ b,aeqL ks (xs.toList.drop o) (ys.toList.drop o) = some b → ∀ w,
   (Op.eqFields D xs ys fs).run P w = .ok b w
 | [],o,ks,h,hx,hy,b,hb,w => by
   cases h
   rw [List.drop_of_length_le (by simp at hx ⊢; omega),List.drop_of_length_le (by simp at hy ⊢; omega)] at hb
   cases hb
   rfl
 | fl :: r,o,ks,h,hx,hy,b,hb,w => by
   simp only [eqFs] at h
   split at h
   ·rename_i hc
    split at h
    ·rename_i k hk
     split at h
     ·rename_i hsz
      split at h
      ·rename_i l hr
       cases h
       obtain ⟨hq,hu,h1⟩ := hrec _ _ hk
       simp only [List.length_append] at hx hy
       rw [take_drop_at xs.toList o k.length,take_drop_at ys.toList o k.length] at hb
       obtain ⟨b1,b2,e1,e2,rfl⟩ := aeqL_append (by simp; omega) (by simp; omega) hb
       have ih := eqFs_run hrec xs ys r (o + k.length) l hr (by omega) (by omega) b2 e2 w
       have p1 := run_part_shape (xs := xs) (off := o) hsz hu h1 (by omega) w
       have p2 := run_part_shape (xs := ys) (off := o) hsz hu h1 (by omega) w
       have p3 := hq _ _ b1 e1 w
       rw [← hc.2] at p1 p2 p3
       simp only [Op.eqFields,if_pos hc.1,Sem.run_bind,p1,p2,p3,Result.andThen_ok]
       cases b1
       ·simp
       ·simpa using ih
      ·cases h
     ·cases h
    ·cases h
   ·cases h
theorem eqIs_run {D : Nat} {e : TypeId} {k : List CK} (hq : EqAt' P D e k) (hsz : szOf P e = some k.length) (hu : (P.underlying e).isSome = true) (h1 : (match P.underlying e with | some (.struct _) | some (.array _ _) => True | _ => k.length = 1))
  (xs ys : Array Value) : ∀ (m j : Nat),xs.size = (j + m) * k.length → ys.size = (j + m) * k.length → ∀ b,aeqL (List.replicate m k).flatten (xs.toList.drop (j * k.length)) (ys.toList.drop (j * k.length)) = some b → ∀ w,
   (Op.eqItems D e k.length xs ys (List.range' j m)).run P w = .ok b w
 | 0,j,hx,hy,b,hb,w => by
   rw [List.drop_of_length_le (by simp [hx]),List.drop_of_length_le (by simp [hy])] at hb
   cases hb
   rfl
 | m + 1,j,hx,hy,b,hb,w => by
   have e0 : (j + (m + 1)) * k.length = j * k.length + k.length + m * k.length := by rw [Nat.add_mul,Nat.add_mul]; omega
   have e1' : (j + 1) * k.length = j * k.length + k.length := by rw [Nat.add_mul]; omega
   rw [take_drop_at xs.toList (j * k.length) k.length,take_drop_at ys.toList (j * k.length) k.length,List.replicate_succ,List.flatten_cons] at hb
   obtain ⟨b1,b2,e1,e2,rfl⟩ := aeqL_append (by simp; omega) (by simp; omega) hb
   have ih := eqIs_run hq hsz hu h1 xs ys m (j + 1) (by rw [hx,show j + 1 + m = j + (m + 1) by omega]) (by rw [hy,show j + 1 + m = j + (m + 1) by omega]) b2 (by rw [e1']; exact e2) w
   have p1 := run_part_shape (xs := xs) (off := j * k.length) hsz hu h1 (by omega) w
   have p2 := run_part_shape (xs := ys) (off := j * k.length) hsz hu h1 (by omega) w
   have p3 := hq _ _ b1 e1 w
   rw [List.range'_succ]
   simp only [Op.eqItems,Sem.run_bind,p1,p2,p3,Result.andThen_ok]
   cases b1
   ·simp
   ·simpa using ih
theorem int_beq (a b : Int) : (a == b) = decide (a = b) := by rw [Bool.eq_iff_iff]; simp
theorem aeqC_run {t : TypeId} {k : CK} {x y : Value} {b : Bool} (hu : match k with | .b => P.underlying t = some .bool | .i => ∃ q,P.underlying t = some (.int q) | .s => P.underlying t = some .string)
  (h : aeqC k x y = some b) (D : Nat) (w : World) : (Op.equalIn (D + 1) t x y).run P w = .ok b w := by
 unfold aeqC at h
 split at h
 ·split at h
  ·rename_i hk; subst hk; cases h; obtain ⟨q,hu⟩ := hu; rw [run_equalIn_int w D t _ q _ _ hu,int_beq]
  ·cases h
 ·cases h; exact run_equalIn_bool' w D t _ _ hu
 ·cases h; rw [run_equalIn_string w D t _ _ hu,ba_beq]
 ·cases h
theorem equalIn_eqTy : ∀ (d : Nat) (t : TypeId) (ks : List CK),eqTy P d t = some ks → ∀ D,d ≤ D → EqAt' P D t ks
 | 0,_,_,h => by cases h
 | d + 1,t,ks,h => by
   intro D hD cs ds b hb w
   obtain ⟨D, rfl⟩ : ∃ D', D = D' + 1 := ⟨D - 1, by omega⟩
   obtain ⟨hl,hl2⟩ := aeqL_len hb
   unfold eqTy at h
   have one : ∀ k,ks = [k] → ∃ x y,cs = [x] ∧ ds = [y] ∧ aeqC k x y = some b := by
    intro k hn
    subst hn
    obtain ⟨x,rfl⟩ := List.length_eq_one_iff.1 hl
    obtain ⟨y,rfl⟩ := List.length_eq_one_iff.1 hl2
    refine ⟨x,y,rfl,rfl,?_⟩
    simp only [aeqL] at hb
    split at hb
    ·rename_i a c h1 h2; cases h2; rw [h1,← hb]; simp
    ·cases hb
   cases hu : P.underlying t with
   | none => rw [hu] at h; cases h
   | some kd =>
     rw [hu] at h
     cases kd with
     | struct fs =>
       dsimp only at h
       split at h
       ·cases h
       ·rename_i hst
        have hfs : P.fieldsOf t = fs := by simp [Program.fieldsOf,hu]
        simp only [shape,hu]
        rw [run_equalIn_struct w D t cs.toArray ds.toArray (by rw [hfs]; exact hu) (by simpa using hst),hfs]
        exact eqFs_run (D := D) (fun t n hr => ⟨equalIn_eqTy d t n hr D (by omega),eqTy_und hr⟩) cs.toArray ds.toArray fs.toList 0 ks h (by simp; omega) (by simp; omega) b (by simpa using hb) w
     | array m e =>
       dsimp only at h
       split at h
       ·rename_i k hk
        split at h
        ·rename_i hsz
         cases h
         obtain ⟨hue,h1⟩ := eqTy_und hk
         have hi : ∃ i,P.info? e = some i := by
          unfold szOf at hsz
          obtain ⟨i,hi,_⟩ := Option.map_eq_some_iff.1 hsz
          exact ⟨i,hi⟩
         obtain ⟨i,hi⟩ := hi
         have hc : P.cellsOf e = k.length := by
          unfold szOf at hsz
          simp only [Program.cellsOf,hsz,Option.getD_some]
         simp only [shape,hu]
         rw [run_equalIn_array w D cs.toArray ds.toArray hu hi,hc,List.range_eq_range']
         have hlen : ((List.replicate m k).flatten).length = m * k.length := by simp
         exact eqIs_run (equalIn_eqTy d e k hk D (by omega)) hsz hue h1 cs.toArray ds.toArray m 0 (by simp; omega) (by simp; omega) b (by simpa using hb) w
        ·cases h
       ·cases h
     | bool =>
       cases h
       obtain ⟨x,y,rfl,rfl,e⟩ := one _ rfl
       simp only [shape,hu,List.headD_cons]
       exact aeqC_run (k := .b) hu e D w
     | int k =>
       cases h
       obtain ⟨x,y,rfl,rfl,e⟩ := one _ rfl
       simp only [shape,hu,List.headD_cons]
       exact aeqC_run (k := .i) ⟨_,hu⟩ e D w
     | string =>
       cases h
       obtain ⟨x,y,rfl,rfl,e⟩ := one _ rfl
       simp only [shape,hu,List.headD_cons]
       exact aeqC_run (k := .s) hu e D w
     | _ => cases h
theorem aeqL_same {μ : Mu} {ks : List CK} {xs ys : List Value} {b : Bool} (h : aeqL ks xs ys = some b) : (∀ v ∈ xs,flat1 v = true) ∧ (∀ v ∈ ys,flat1 v = true) := by
 induction ks generalizing xs ys b with
 | nil => cases xs <;> cases ys <;> simp_all [aeqL]
 | cons k ks ih =>
   cases xs with
   | nil => cases h
   | cons x xs =>
     cases ys with
     | nil => cases h
     | cons y ys =>
       simp only [aeqL] at h
       split at h
       ·rename_i a c h1 h2
        have := ih h2
        have hxy : flat1 x = true ∧ flat1 y = true := by
         unfold aeqC at h1
         split at h1 <;> first | exact ⟨rfl,rfl⟩ | cases h1
        simp only [List.mem_cons,forall_eq_or_imp]
        exact ⟨⟨hxy.1,this.1⟩,hxy.2,this.2⟩
       ·cases h
theorem VRel.flat1_eq {μ : Mu} {v v' : Value} (r : VRel μ v v') (h : Ab.flat1 v = true) : v' = v := by
 cases r <;> first | rfl | cases h
theorem VRel.agg_flat {μ : Mu} {cs : Array Value} {v' : Value} (r : VRel μ (.agg cs) v') (h : ∀ v ∈ cs.toList,Ab.flat1 v = true) : v' = .agg cs := by
 obtain ⟨cs', rfl, hl, hr, _⟩ := r.agg_inv
 congr 1
 apply Array.ext hl.symm
 intro i h1 h2
 have := (hr i h2).flat1_eq (h _ (by simp [Array.getD,h2]))
 simpa [Array.getD,h1,h2] using this
end
end Go.Ab
