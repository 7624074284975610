/-
 Ab: append as an operation; slices made; bytes and strings.
-/
import Derived.Test.YtdnmkenamgfjoaaGreatAbSound9
set_option linter.unusedSimpArgs false
set_option linter.unusedVariables false
namespace Go.Ab
set_option linter.unusedSectionVars false
variable [Inhabited TabBox]
open Go.RowKit
theorem zOf_info {P : Program} {e : TypeId} {z : List Value} {esz bytes : Nat} (hz : zOf P e = some z) (hs : szOf P e = some esz) (hb : byOf P e = some bytes) : ∃ i zv,AppInfo P e esz bytes z i zv := by
 obtain ⟨i,v,hi,hv,hc,hall,hsz⟩ := zOf_spec hz
 simp only [szOf,byOf,hi,Option.map_some,Option.some.injEq] at hs hb
 exact ⟨i,v,hi,hv,hc,hall,hs,by omega,hb⟩
section
variable {P : Program} {N : Nat} {o : Oper}
theorem app_runs {c : Call} {sT xT e : TypeId} {d : TypeDesc} {esz bytes : Nat} {z : List Value} {x y : Operand} (ho : o.op = .call c) (hcal : c.callee = .builtin .append) (hargs : c.args = #[x,y]) (hty : c.argTypes.toList = [sT,xT])
  (hu : P.underlying sT = some (.slice e)) (hz : zOf P e = some z) (hs : szOf P e = some esz) (hb : byOf P e = some bytes) (hd : P.underlying xT = some d) (hni : ∀ k,d ≠ .int k) (okx : okOpd N x = true) (oky : okOpd N y = true) : OpRuns P N o (.app esz bytes e x y) := by
 intro n0 B μ0 w0 f h a w μ s v h' ev
 have rx := opd_rel s.fr okx
 have ry := opd_rel s.fr oky
 have hty0 : c.argTypes[0]? = some sT := by
  have : c.argTypes.toList[0]? = some sT := by rw [hty]; rfl
  simpa using this
 have hty1 : c.argTypes[1]? = some xT := by
  have : c.argTypes.toList[1]? = some xT := by rw [hty]; rfl
  simpa using this
 have ha0 : (c.args.map a.eval)[0]? = some (a.eval x) := by simp [hargs]
 have ha1 : (c.args.map a.eval)[1]? = some (a.eval y) := by simp [hargs]
 simp only [aop] at ev
 split at ev
 ·rename_i base len cap hx
  rw [hx] at rx
  split at ev
  ·rename_i n hn
   split at ev
   ·rename_i new hnew
    obtain ⟨nw,hrun,rn⟩ := first_rel (P := P) s.rel hnew hn (Nat.le_refl _) ry
    obtain ⟨i,zv,I⟩ := zOf_info hz hs hb
    obtain ⟨v', w', μ', g1, g2, g3⟩ := aapp_ok (t := o.type) s hty0 hu ha0 ha1 I (.of ⟨xT, d, hty1, hd, hni⟩ (fun w1 => lenOf_run hn ry) hrun) rx rn ev
    refine ⟨v', w', μ', .inl ?_, g2, g3⟩
    refine builtin_run ho hcal fun cs => ?_
    simp only [builtin,Sem.run_bind,g1,Result.andThen_ok,Sem.run_pure]
   ·cases ev
  ·cases ev
 ·cases ev
theorem csrel_map {μ : Mu} {α : Type} (g : α → Value) (hg : ∀ x,flat1 (g x) = true) (l : List α) : CsRel μ (l.map g) (l.map g).toArray :=
 csrel_flat (by simp [List.all_eq_true,hg])
theorem zeroCells_eq (z : List Value) (n : Nat) (hz : 0 < z.length) : (Array.range (n * z.length)).map (fun i => (z.toArray)[i % z.toArray.size]!) = (List.replicate n z).flatten.toArray := by
 apply Array.ext'
 simp only [Array.toList_map,Array.toList_range]
 induction n with
 | zero => simp
 | succ n ih =>
   rw [List.replicate_succ', List.flatten_append, ← ih, Nat.add_mul, Nat.one_mul, List.range_add, List.map_append]
   congr 1
   simp only [List.map_map]
   apply List.ext_getElem
   ·simp
   ·intro i h1 h2
    simp at h1
    simp [Nat.mul_add_mod,Nat.mod_eq_of_lt h1,h1,Nat.add_comm]
theorem rep_flat {z : List Value} (h : z.all flat1 = true) (n : Nat) : (List.replicate n z).flatten.all flat1 = true := by
 rw [List.all_eq_true]
 intro v hv
 obtain ⟨l,hl,hvl⟩ := List.mem_flatten.1 hv
 rw [(List.mem_replicate.1 hl).2] at hvl
 exact List.all_eq_true.1 h v hvl
theorem appMk_runs {c : Call} {sT xT e : TypeId} {kk : IntKind} {esz bytes : Nat} {z : List Value} {x y : Operand} (ho : o.op = .call c) (hcal : c.callee = .builtin .append) (hargs : c.args = #[x,y]) (hty : c.argTypes.toList = [sT,xT])
  (hu : P.underlying sT = some (.slice e)) (hz : zOf P e = some z) (hs : szOf P e = some esz) (hb : byOf P e = some bytes) (hd : P.underlying xT = some (.int kk)) (okx : okOpd N x = true) (oky : okOpd N y = true) : OpRuns P N o (.appMk esz bytes e z x y) := by
 intro n0 B μ0 w0 f h a w μ s v h' ev
 have rx := opd_rel s.fr okx
 have ry := opd_rel s.fr oky
 have hty0 : c.argTypes[0]? = some sT := by
  have : c.argTypes.toList[0]? = some sT := by rw [hty]; rfl
  simpa using this
 have hty1 : c.argTypes[1]? = some xT := by
  have : c.argTypes.toList[1]? = some xT := by rw [hty]; rfl
  simpa using this
 have ha0 : (c.args.map a.eval)[0]? = some (a.eval x) := by simp [hargs]
 have ha1 : (c.args.map a.eval)[1]? = some (a.eval y) := by simp [hargs]
 simp only [aop] at ev
 split at ev
 ·rename_i base len cap k' l hx hy
  rw [hx] at rx
  rw [hy] at ry
  split at ev
  ·rename_i hc
   obtain ⟨i,zv,I⟩ := zOf_info hz hs hb
   obtain ⟨n,rfl⟩ : ∃ n : Nat,l = (n : Int) := ⟨l.toNat,by omega⟩
   rw [Int.toNat_natCast] at ev
   have hn0 : (n : Int) * 1 ≤ (n : Int) * ((bytes : Int) + 1) := Int.mul_le_mul_of_nonneg_left (by omega) (by omega)
   have hnb : (n : Int) * (bytes : Int) ≤ (n : Int) * ((bytes : Int) + 1) := Int.mul_le_mul_of_nonneg_left (by omega) (by omega)
   have hnb2 : n * i.bytes ≤ 2 ^ 48 := by
    rw [I.bytes]
    have : ((n * bytes : Nat) : Int) ≤ 1099511627776 := by rw [Int.natCast_mul]; omega
    omega
   have hw : IntKind.i64.wrap (n : Int) = (n : Int) := IntWalk.i64_in _ (by omega)
   have rn : CsRel μ (List.replicate n z).flatten (if n * esz = 0 then #[] else Builtin.zeroCells zv.cells n) := by
    have h0 := csrel_flat (μ := μ) (rep_flat I.flat n)
    by_cases q : n * esz = 0
    ·rw [if_pos q]
     have hrow : (List.replicate n z).flatten = [] := by
      rcases Nat.mul_eq_zero.1 q with h | h
      ·rw [h]; rfl
      ·have : z = [] := List.eq_nil_of_length_eq_zero (by rw [I.zlen]; exact h)
       rw [this]; simp
     rw [hrow] at h0 ⊢
     exact h0
    ·rw [if_neg q]
     have e1 : Builtin.zeroCells zv.cells n = (List.replicate n z).flatten.toArray := by
      have hz0 : 0 < z.length := by
       rw [I.zlen]
       rcases Nat.eq_zero_or_pos esz with h | h
       ·exact absurd (by rw [h,Nat.mul_zero]) q
       ·exact h
      rw [I.cells,← zeroCells_eq z n hz0]; simp [Builtin.zeroCells]
     rw [e1]; exact h0
   obtain ⟨v', w', μ', g1, g2, g3⟩ := aapp_ok (t := o.type) s hty0 hu ha0 ha1 I (.mk0 xT sT e kk k' n i zv hty1 hd ry.int_inv hw hty0 hu I.info I.zero hnb2 rfl) rx rn ev
   refine ⟨v', w', μ', .inl ?_, g2, g3⟩
   refine builtin_run ho hcal fun cs => ?_
   simp only [builtin,Sem.run_bind,g1,Result.andThen_ok,Sem.run_pure]
  ·cases ev
 ·cases ev
theorem buildS_runs {t e : TypeId} {len s : Nat} {ps : Array (Nat × Operand)} {z : List Value} {l : List (Nat × Nat × Operand)} (ho : o.op = .buildSlice t len ps) (hu : P.underlying t = some (.slice e)) (hs : szOf P e = some s) (hz : zOf P e = some z)
  (hle : len * s ≤ 16777216) (h0 : 0 < s) (hp : partsOf (fun i => some (i * s,s)) ps.toList = some l) (ok : ∀ x ∈ l,okOpd N x.2.2 = true) : OpRuns P N o (.buildS len (List.replicate len z).flatten l) := by
 intro n0 B μ0 w0 f h a w μ st v h' ev
 simp only [aop,Option.map_eq_some_iff,Prod.mk.injEq] at ev
 obtain ⟨c,hc,rfl,rfl⟩ := ev
 obtain ⟨i,zv,hi,hzv,hcz,hall,hsz⟩ := zOf_spec hz
 have hzl : z.length = s := by
  simp only [szOf,hi,Option.map_some,Option.some.injEq] at hs; omega
 have hzero : (zeroValue e).run P w = .ok zv w := by simp [zeroValue,typeInfo,hi,hzv]
 obtain ⟨cc,hf,r⟩ := fill_rel _ st.fr ps.toList l _ c _ hp ok (csrel_flat (rep_flat hall len)) hc
 obtain ⟨μ', _, hm, s'⟩ := st.newRow r e 1
 refine ⟨.slice (some ⟨w.heap.size, 0, none⟩) len len, _, μ', .inl ?_, ?_, s'⟩
 ·simp only [execOp,ho,Instr.buildSlice,Sem.run_bind,run_und hu,Result.andThen_ok,run_sizeOf' hs]
  rw [if_neg (by omega)]
  by_cases h00 : len * s = 0
  ·have hl0 : len = 0 := by
    rcases Nat.mul_eq_zero.1 h00 with h | h
    ·exact h
    ·omega
   subst hl0
   have hf' : Instr.fill (fun i => some (i * s,s)) #[] (ps.toList.map fun x => (x.1,a.eval x.2)) = some cc := by simpa using hf
   simp [hf', newRow, Array.range_zero']
  ·have hf' : Instr.fill (fun i => some (i * s,s)) ((Array.range (len * s)).map fun i => z.toArray[i % z.toArray.size]!) (ps.toList.map fun x => (x.1,a.eval x.2)) = some cc := by
    rw [← hzl,zeroCells_eq z len (by omega),hzl]; exact hf
   simp only [if_neg h00, Sem.run_bind, hzero, Result.andThen_ok, Sem.run_pure, hcz, Array.toList_map, hf', newRow, run_newObj, World.alloc_eq, pure_bind]
 ·have := VRel.slice (μ := μ') (o := 0) (l := len) (c := len) (c' := len) hm (.inl rfl)
  simpa using this
theorem mkSl_runs {t e : TypeId} {z : List Value} {bytes s : Nat} {x y : Operand} (ho : o.op = .makeSlice t x y) (hu : P.underlying t = some (.slice e)) (hz : zOf P e = some z) (hb : byOf P e = some bytes) (hs : szOf P e = some s) (okx : okOpd N x = true) (oky : okOpd N y = true) : OpRuns P N o (.mkSl z bytes x y) := by
 intro n0 B μ0 w0 f h a w μ st v h' ev
 have rx := opd_rel st.fr okx
 have ry := opd_rel st.fr oky
 simp only [aop] at ev
 split at ev
 ·rename_i k l k' c hx hy
  rw [hx] at rx
  rw [hy] at ry
  split at ev
  ·rename_i hc
   obtain ⟨hl0,hlc,hsm⟩ := hc
   cases ev
   obtain ⟨i,zv,hi,hzv,hcz,hall,hsz⟩ := zOf_spec hz
   have hzl : z.length = s := by simp only [szOf,hi,Option.map_some,Option.some.injEq] at hs; omega
   have hib : i.bytes = bytes := by simp only [byOf,hi,Option.map_some,Option.some.injEq] at hb; exact hb
   have hzero : (zeroValue e).run P w = .ok zv w := by simp [zeroValue,typeInfo,hi,hzv]
   obtain ⟨μ', _, hm, s'⟩ := st.newRow (csrel_flat (rep_flat hall c.toNat)) e 1
   refine ⟨.slice (some ⟨w.heap.size, 0, none⟩) l.toNat c.toNat, _, μ', .inl ?_, ?_, s'⟩
   ·have hcle : c ≤ 1099511627776 := by
     have h1 : c * 1 ≤ c * ((bytes : Int) + 1) := Int.mul_le_mul_of_nonneg_left (by omega) (by omega)
     omega
    have hcb : c * (bytes : Int) ≤ 1099511627776 := by
     have h1 : c * (bytes : Int) ≤ c * ((bytes : Int) + 1) := Int.mul_le_mul_of_nonneg_left (by omega) (by omega)
     omega
    have hwl : IntKind.i64.wrap l = l := IntWalk.i64_in _ (by omega)
    have hwc : IntKind.i64.wrap c = c := IntWalk.i64_in _ (by omega)
    have hti : (typeInfo e).run P w = .ok i w := by simp [typeInfo,hi]
    simp only [execOp,ho,Instr.makeSlice,Sem.run_bind,run_und hu,Result.andThen_ok,rx.int_inv,ry.int_inv,asInt,asIntOf,Sem.run_pure,hti,hwl,hwc,hib]
    have hbad : ((decide (c < 0) || decide ((bytes : Int) * c > 2 ^ 48)) || decide (l < 0) || decide (l > c)) = false := by
     rw [Int.mul_comm]
     simp; omega
    rw [if_neg (by rw [hbad]; simp)]
    simp only [Sem.run_bind,Sem.run_pure,Result.andThen_ok,run_askRoom,run_sizeOf' hs]
    by_cases h00 : c.toNat * s = 0
    ·have hrow : (List.replicate c.toNat z).flatten = [] := by
      rcases Nat.mul_eq_zero.1 h00 with h | h
      ·rw [h]; rfl
      ·subst h
       have : z = [] := List.eq_nil_of_length_eq_zero hzl
       subst this
       simp
     simp [h00,newRow,hrow,Array.range_zero']
    ·simp only [if_neg h00,Sem.run_bind,hzero,Result.andThen_ok,Sem.run_pure,hcz,newRow,run_newObj,World.alloc_eq,pure_bind]
     have hzp : 0 < z.length := Nat.pos_of_ne_zero fun h => h00 (by rw [← hzl,h,Nat.mul_zero])
     rw [← hzl,zeroCells_eq z c.toNat hzp]
   ·have := VRel.slice (μ := μ') (o := 0) (l := l.toNat) (c := c.toNat) (c' := c.toNat) hm (.inl rfl)
    simpa using this
  ·cases ev
 ·cases ev
theorem mkSlT_runs {t e : TypeId} {z : List Value} {bytes s : Nat} {x y : Operand} (ho : o.op = .makeSlice t x y) (hu : P.underlying t = some (.slice e)) (hz : zOf P e = some z) (hb : byOf P e = some bytes) (hs : szOf P e = some s) (okx : okOpd N x = true) (oky : okOpd N y = true) : OpRuns P N o (.mkSlT e z bytes x y) := by
 intro n0 B μ0 w0 f h a w μ st v h' ev
 have rx := opd_rel st.fr okx
 have ry := opd_rel st.fr oky
 simp only [aop] at ev
 split at ev
 ·rename_i k l k' c hx hy
  rw [hx] at rx
  rw [hy] at ry
  split at ev
  ·rename_i hc
   obtain ⟨hl0,hlc,hsm⟩ := hc
   cases ev
   obtain ⟨i,zv,hi,hzv,hcz,hall,hsz⟩ := zOf_spec hz
   have hzl : z.length = s := by simp only [szOf,hi,Option.map_some,Option.some.injEq] at hs; omega
   have hib : i.bytes = bytes := by simp only [byOf,hi,Option.map_some,Option.some.injEq] at hb; exact hb
   have hzero : (zeroValue e).run P w = .ok zv w := by simp [zeroValue,typeInfo,hi,hzv]
   obtain ⟨μ', _, hm, s'⟩ := st.newRowT (csrel_flat (rep_flat hall c.toNat)) e 1
   refine ⟨.slice (some ⟨w.heap.size, 0, none⟩) l.toNat c.toNat, _, μ', .inl ?_, ?_, s'⟩
   ·have hcle : c ≤ 1099511627776 := by
     have h1 : c * 1 ≤ c * ((bytes : Int) + 1) := Int.mul_le_mul_of_nonneg_left (by omega) (by omega)
     omega
    have hcb : c * (bytes : Int) ≤ 1099511627776 := by
     have h1 : c * (bytes : Int) ≤ c * ((bytes : Int) + 1) := Int.mul_le_mul_of_nonneg_left (by omega) (by omega)
     omega
    have hwl : IntKind.i64.wrap l = l := IntWalk.i64_in _ (by omega)
    have hwc : IntKind.i64.wrap c = c := IntWalk.i64_in _ (by omega)
    have hti : (typeInfo e).run P w = .ok i w := by simp [typeInfo,hi]
    simp only [execOp,ho,Instr.makeSlice,Sem.run_bind,run_und hu,Result.andThen_ok,rx.int_inv,ry.int_inv,asInt,asIntOf,Sem.run_pure,hti,hwl,hwc,hib]
    have hbad : ((decide (c < 0) || decide ((bytes : Int) * c > 2 ^ 48)) || decide (l < 0) || decide (l > c)) = false := by
     rw [Int.mul_comm]
     simp; omega
    rw [if_neg (by rw [hbad]; simp)]
    simp only [Sem.run_bind,Sem.run_pure,Result.andThen_ok,run_askRoom,run_sizeOf' hs]
    by_cases h00 : c.toNat * s = 0
    ·have hrow : (List.replicate c.toNat z).flatten = [] := by
      rcases Nat.mul_eq_zero.1 h00 with h | h
      ·rw [h]; rfl
      ·subst h
       have : z = [] := List.eq_nil_of_length_eq_zero hzl
       subst this
       simp
     simp [h00,newRow,hrow,Array.range_zero']
    ·simp only [if_neg h00,Sem.run_bind,hzero,Result.andThen_ok,Sem.run_pure,hcz,newRow,run_newObj,World.alloc_eq,pure_bind]
     have hzp : 0 < z.length := Nat.pos_of_ne_zero fun h => h00 (by rw [← hzl,h,Nat.mul_zero])
     rw [← hzl,zeroCells_eq z c.toNat hzp]
   ·have := VRel.slice (μ := μ') (o := 0) (l := l.toNat) (c := c.toNat) (c' := c.toNat) hm (.inl rfl)
    simpa using this
  ·cases ev
 ·cases ev
theorem abytes_spec {μ : Mu} : ∀ {l : List Value} {b : List UInt8} {l' : List Value},abytes l = some b → l.length = l'.length → (∀ i,i < l.length → VRel μ (l.getD i unk) (l'.getD i unk)) → ∃ ns : List Int,l' = ns.map (Value.int .u8) ∧ b = ns.map fun n => UInt8.ofNat n.toNat
 | [],b,[],h,_,_ => by cases h; exact ⟨[],rfl,rfl⟩
 | v :: l, b, v' :: l', h, hl, hr => by
   unfold abytes at h
   split at h
   ·rename_i hx; cases hx
   ·rename_i n r hx
    cases hx
    obtain ⟨bs,hbs,rfl⟩ := Option.map_eq_some_iff.1 h
    obtain ⟨ns,rfl,rfl⟩ := abytes_spec hbs (by simpa using hl) (fun i hi => by simpa using hr (i + 1) (by simpa using hi))
    have h0 := (by simpa using hr 0 (by simp) : VRel μ (.int .u8 n) v').int_inv
    exact ⟨n :: ns,by simp [h0],rfl⟩
   ·cases h
 | [],_,_ :: _,_,hl,_ => by cases hl
 | _ :: _,_,[],_,hl,_ => by cases hl
theorem toStr_loop (P : Program) (w : World) (g : Value → ByteArray → Sem (ForInStep ByteArray)) (hg : ∀ n s,g (.int .u8 n) s = pure (ForInStep.yield (s.push (UInt8.ofNat n.toNat)))) : ∀ (ns : List Int) (s : ByteArray),
  (forIn (m := Sem) (ns.map (Value.int .u8)) s g).run P w = .ok ⟨s.data ++ (ns.map fun n => UInt8.ofNat n.toNat).toArray⟩ w
 | [],s => by simp
 | n :: ns,s => by
   rw [List.map_cons,List.forIn_cons,hg]
   simp only [Sem.run_bind,Sem.run_pure,Result.andThen_ok]
   rw [toStr_loop P w g hg ns]
   congr 2
   apply Array.ext'
   simp [ByteArray.push]
theorem csrel_ints {μ : Mu} {l : List Value} {cs : Array Value} (r : CsRel μ l cs) {b : List UInt8} (h : abytes l = some b) : ∃ ns : List Int,cs.toList = ns.map (Value.int .u8) ∧ b = ns.map fun n => UInt8.ofNat n.toNat :=
 abytes_spec h (by simpa using r.1) fun i hi => by rw [toList_getD cs]; exact r.2.1 i hi
theorem toStr_runs {sT dT e : TypeId} {x : Operand} (ho : o.op = .convert sT dT x) (hs : P.underlying sT = some (.slice e)) (hd : P.underlying dT = some .string) (he : P.underlying e = some (.int .u8)) (okx : okOpd N x = true) : OpRuns P N o (.toStr x) :=
 .pure fun B μ f h a w hr fr v h' ev => by
  have rx := opd_rel fr okx
  simp only [aop] at ev
  split at ev
  ·rename_i l c hx
   rw [hx] at rx
   cases ev
   refine ⟨rfl,_,?_,.string⟩
   simp [execOp,ho,rx.snil_inv,convert,run_und hs,run_und hd,run_und he,Conv.bytesToString]
   rfl
  ·rename_i ad n c hx
   rw [hx] at rx
   split at ev
   ·rename_i l hl
    simp only [Option.map_eq_some_iff,Prod.mk.injEq] at ev
    obtain ⟨b,hb,rfl,rfl⟩ := ev
    obtain ⟨cs,hrun,r⟩ := first_rel (P := P) hr hl rfl (Nat.le_refl _) rx
    obtain ⟨ns,h1,rfl⟩ := csrel_ints r hb
    have hv : ∃ a' c', a.eval x = .slice (some a') n c' := by
     obtain ⟨a', c', hv, _⟩ := rx.slice_inv
     exact ⟨a', c', hv⟩
    obtain ⟨a', c', hv⟩ := hv
    rw [hv] at hrun
    have hload := hrun w rfl
    simp only [Builtin.firstCells,Nat.mul_one] at hload
    refine ⟨rfl,_,?_,.string⟩
    simp only [execOp,ho,hv,convert,Sem.run_bind,run_und hs,run_und hd,Result.andThen_ok,run_und he,Conv.bytesToString,hload]
    rw [← Array.forIn_toList,h1]
    rw [toStr_loop P w _ (fun n s => rfl) ns ByteArray.empty]
    simp only [Result.andThen_ok,Sem.run_pure]
    have he : ByteArray.empty.data = #[] := rfl
    rw [he]
    simp
   ·cases ev
  ·cases ev
theorem freeze_same (w : World) (o : Obj) (a : Addr) (n : Nat) : SameBut w ((w.drew.alloc o).freeze a n) := by
 unfold World.freeze; split <;> exact ⟨rfl,rfl,rfl⟩
theorem shape_alloc (w : World) (X : Array Value) (e : TypeId) : (w.drew.alloc (.cells X e)).shape? w.heap.size = some (e,X.size) := by
 show (match (w.heap.push (.cells X e))[w.heap.size]? with | some (.cells c elem _) => some (elem,c.size) | _ => none) = _
 rw [Array.getElem?_push_size]
theorem toBytes_runs {sT dT e : TypeId} {x : Operand} (ho : o.op = .convert sT dT x) (hs : P.underlying sT = some .string) (hd : P.underlying dT = some (.slice e)) (he : P.underlying e = some (.int .u8)) (okx : okOpd N x = true) : OpRuns P N o (.toBytes e x) := by
 intro n0 B μ0 w0 f h a w μ st v h' ev
 have rx := opd_rel st.fr okx
 simp only [aop] at ev
 split at ev
 ·rename_i s hx
  rw [hx] at rx
  split at ev
  ·rename_i hsm
   cases ev
   let cap := grownCap w s.size 0 e
   have hcap : s.size ≤ cap := grownCap_ge w s.size 0 e
   let cs : List Value := s.data.toList.map fun b => Value.int .u8 (b.toNat : Int)
   have hcl : cs.length = s.size := by simp [cs]
   have hr : CsRel μ cs cs.toArray := csrel_map (fun b : UInt8 => Value.int .u8 (b.toNat : Int)) (fun _ => rfl) s.data.toList
   have hex : ∀ v ∈ (Array.replicate (cap - s.size) (Value.int .u8 0)).toList,v.oneCell' = true := by
    intro v hv
    have hv' : v ∈ List.replicate (cap - s.size) (Value.int .u8 0) := by simpa using hv
    rw [(List.mem_replicate.1 hv').2]; rfl
   have helems : (s.data.map fun b => Value.int .u8 (b.toNat : Int)) = cs.toArray := by
    apply Array.ext'; simp [cs]
   let n := (cs.toArray ++ Array.replicate (cap - s.size) (Value.int .u8 0)).size
   have hn : n = cap := by simp [n,hcl]; omega
   let w1 : World := (w.drew.alloc (.cells (cs.toArray ++ Array.replicate (cap - s.size) (Value.int .u8 0)) e)).freeze { block := w.heap.size,off := n } 1
   have hheap : w1.heap = w.heap.push (.cells (cs.toArray ++ Array.replicate (cap - s.size) (Value.int .u8 0)) e (n,n + 1)) := by
    show (World.freeze _ _ _).heap = _
    simp only [World.freeze,World.alloc,World.drew]
    rw [if_neg (by omega)]
    apply Array.ext
    ·simp
    ·intro i h1 h2
     simp only [Array.getElem_modify,Array.getElem_push]
     by_cases hi : i < w.heap.size
     ·rw [if_neg (by omega),dif_pos hi,dif_pos hi]
     ·rw [if_pos (by simp at h1; omega),dif_neg hi,dif_neg hi]
      rfl
   obtain ⟨μ', g1, g2, g3⟩ := st.newLoose (w1 := w1) hr hex e (n, n + 1) (fun i hi => by simp [hcl] at hi; omega) hheap (freeze_same _ _ _ _) (len := s.size) (cap' := cap) (esz := 1) (by rw [hcl, Nat.mul_one]) hcap (by simp [hcl]; omega) (.inr rfl)
   refine ⟨_, w1, μ', .inl ?_, g2, g3⟩
   simp only [execOp,ho,convert,Sem.run_bind,run_und hs,run_und hd,Result.andThen_ok,rx.string_inv,run_und he,Conv.stringToBytes,run_choose,Question.forced,Bool.false_eq_true,if_false,World.drew_eq,newRow,run_newObj,Sem.run_pure,World.alloc_eq,World.size_drew,markStringish,run_shape]
   rw [shape_alloc]
   simp only [run_freeze,Result.andThen_ok]
   rw [helems]
   rfl
  ·cases ev
 ·cases ev
end
end Go.Ab
