/- Numerals, and words in a line. No condition. -/
import Derived.Test.YtochfcfkpachcaaGreatDoorPLg2
namespace Go.KB
set_option linter.unusedVariables false
theorem Sl {d:Nat} (h:d<10):(UInt8.ofNat (48+d)).toNat=48+d:=by
  rw [UInt8.toNat_ofNat'];omega
theorem O3 {a d:Nat} {l:List UInt8} (hd:d<10) (ha:a * 10+d<1000000000000000000):Lib.parseUint10 a (UInt8.ofNat (48+d) :: l)=Lib.parseUint10 (a * 10+d) l:=by
  conv=>lhs;unfold Lib.parseUint10
  rw [Sl hd,if_pos (by omega),if_neg (by omega),if_neg (by omega),show 48+d - 48=d by omega]
theorem XC:∀ (u:Nat) (l:List UInt8),u<1000000000000000000→Lib.parseUint10 0 (Lib.decDigits u ++ l)=Lib.parseUint10 u l:=by
  intro u
  induction u using Nat.strongRecOn with
  | _ u ih =>
    intro l hu
    by_cases h:u<10
    · rw [Lib.decDigits,dif_pos h]
      have:=O3 (a:=0) (d:=u) (l:=l) h (by omega)
      rw [Nat.zero_mul,Nat.zero_add] at this
      exact this
    · rw [Lib.decDigits, dif_neg h, List.append_assoc, ih (u / 10) (by omega) _ (by omega)]
      have:=O3 (a:=u / 10) (d:=u % 10) (l:=l) (by omega) (by omega)
      rw [show u / 10 * 10+u % 10=u by omega] at this
      exact this
theorem WB:∀ (u:Nat),∀ b ∈ Lib.decDigits u,48≤b.toNat∧b.toNat≤57:=by
  intro u
  induction u using Nat.strongRecOn with
  | _ u ih =>
    intro b hb
    by_cases h:u<10
    · rw [Lib.decDigits,dif_pos h,List.mem_singleton] at hb
      rw [hb,Sl h];omega
    · rw [Lib.decDigits,dif_neg h,List.mem_append,List.mem_singleton] at hb
      rcases hb with hb | hb
      · exact ih (u / 10) (by omega) b hb
      · rw [hb,Sl (by omega)];omega
theorem dec_ne:∀ (u:Nat),Lib.decDigits u≠[]:=by
  intro u
  rw [Lib.decDigits]
  split <;> simp
theorem jJf:∀ (k u:Nat),u<10 ^ (k+1)→(Lib.decDigits u).length≤k+1:=by
  intro k
  induction k with
  | zero=>intro u h;rw [Lib.decDigits,dif_pos (by omega)];simp
  | succ k ih =>
    intro u h
    rw [Lib.decDigits]
    split
    · simp
    · rw [List.length_append]
      have:=ih (u / 10) (by rw [Nat.pow_succ] at h;omega)
      simp;omega
theorem O4 {n:Int} (h:0≤n):Lib.itoa n=Lib.decDigits n.toNat:=by
  unfold Lib.itoa;rw [if_neg (by omega)]
theorem Ia {n:Int} (h:0≤n) (h1:n≤1000000):(Lib.itoa n).length≤7:=by
  rw [O4 h];exact jJf 6 _ (by omega)
theorem Ny {n:Int} (h:0≤n):∀ b ∈ Lib.itoa n,b≠32:=by
  rw [O4 h]
  intro b hb e
  have:=WB _ b hb
  rw [e] at this
  exact absurd this.1 (by decide)
theorem XD {n:Int} (h:0≤n) (h1:n≤1000000):Lib.atoiAll (Lib.itoa n) = .ok n:=by
  rw [O4 h]
  have hp:=XC n.toNat [] (by omega)
  rw [List.append_nil] at hp
  have h0:=WB n.toNat
  cases hd:Lib.decDigits n.toNat with
  | nil=>exact absurd hd (dec_ne _)
  | cons c r =>
    rw [hd] at hp h0
    have hc:=h0 c List.mem_cons_self
    unfold Lib.atoiAll
    simp only []
    rw [if_neg (show ¬ (c.toNat=43∨c.toNat=45) by omega)]
    unfold Lib.parseMag
    rw [if_neg (by simp),hp]
    simp only [Lib.parseUint10]
    rw [if_neg (by omega),if_neg (by omega),if_neg (by omega)]
    congr 1
    omega
theorem OY {N:Nat} {t:Int}:ou N t=some (decide (0≤t)&&decide (t≤1000000)):=by
  unfold ou
  simp only [zx,zy]
theorem OX {n:Int} (h:0≤n) (h1:n≤1000000):TW n=some (Lib.itoa n):=by
  unfold TW inI
  rw [dT (by omega),dT (by omega)];rfl
theorem KA {N:Nat} {n:Int} (h:0≤n) (h1:n≤1000000):tY N (Lib.itoa n)=some (n,true):=by
  have hl:=Ia h h1
  have e1:Ag N (Lib.itoa n)=some (n,false):=by
    unfold Ag Wp
    rw [show Nat.ble (Lib.itoa n).length 281474976710656=true by rw [Nat.ble_eq];omega,ni,XD h h1]
  have e2:ug N n=some (Lib.itoa n):=OX h h1
  unfold tY
  rw [e1,bS]
  simp only [Bool.not_false,ni,Bool.true_and]
  rw [e2,bS,show BA .eql (Lib.itoa n) (Lib.itoa n)=true by simp [BA],ni,OY,bS,dT h,dT h1]
  rfl
/- words in a line -/
theorem index_no {c:UInt8}:∀ (x:Str),(∀ b ∈ x,b≠c)→Lib.index x [c] = -1:=by
  intro x
  induction x with
  | nil=>intro _;rfl
  | cons b x ih =>
    intro h
    have h1:([c]:Str).isPrefixOf (b :: x)=false:=by simp [List.isPrefixOf];exact fun e=>h b List.mem_cons_self e.symm
    rw [Lib.index,h1,ih fun y hy=>h y (List.mem_cons_of_mem _ hy)];rfl
theorem jJh {c:UInt8} {rest:Str}:∀ (x:Str),(∀ b ∈ x,b≠c)→Lib.index (x ++ c :: rest) [c]=(x.length:Int):=by
  intro x
  induction x with
  | nil=>intro _;rw [List.nil_append,Lib.index];simp [List.isPrefixOf]
  | cons b x ih =>
    intro h
    have h1:([c]:Str).isPrefixOf (b :: (x ++ c :: rest))=false:=by simp [List.isPrefixOf];exact fun e=>h b List.mem_cons_self e.symm
    rw [List.cons_append,Lib.index,h1,ih fun y hy=>h y (List.mem_cons_of_mem _ hy)]
    have:((x.length:Int) == -1)=false:=by rw [beq_eq_false_iff_ne];omega
    rw [this]
    simp
theorem Uj {c:UInt8}:∀ (r:List Str) (x:Str),(∀ b ∈ x,b≠c)→(∀ y ∈ r,∀ b ∈ y,b≠c)→Lib.splitK [c] 0 r.length (x ++ Lib.joinTail [c] r)=x :: r:=by
  intro r
  induction r with
  | nil=>intro x _ _;simp [Lib.joinTail,Lib.splitK]
  | cons y r ih =>
    intro x hx hr
    have e:x ++ Lib.joinTail [c] (y :: r)=x ++ c :: (y ++ Lib.joinTail [c] r):=by simp [Lib.joinTail]
    rw [e,List.length_cons,Lib.splitK,jJh x hx]
    have:((x.length:Int) == -1)=false:=by rw [beq_eq_false_iff_ne];omega
    rw [this]
    simp only [Bool.false_eq_true,if_false,Int.toNat_natCast,Nat.add_zero]
    rw [List.take_left,List.length_singleton,show x ++ c :: (y ++ Lib.joinTail [c] r)=(x ++ [c]) ++ (y ++ Lib.joinTail [c] r) by simp,show x.length+1=(x ++ [c]).length by simp,List.drop_left]
    rw [ih y (hr y List.mem_cons_self) fun z hz=>hr z (List.mem_cons_of_mem _ hz)]
theorem Vt {c:UInt8}:∀ (r:List Str),(∀ y ∈ r,∀ b ∈ y,b≠c)→(Lib.joinTail [c] r).count c=r.length:=by
  intro r
  induction r with
  | nil=>intro _;rfl
  | cons y r ih =>
    intro hr
    have e:Lib.joinTail [c] (y :: r)=c :: (y ++ Lib.joinTail [c] r):=by simp [Lib.joinTail]
    rw [e,List.count_cons_self,List.count_append,List.count_eq_zero.2 (fun hm=>hr y List.mem_cons_self c hm rfl),ih fun z hz=>hr z (List.mem_cons_of_mem _ hz),List.length_cons]
    omega
theorem Ui {c:UInt8} {x:Str} {r:List Str} (hx:∀ b ∈ x,b≠c) (hr:∀ y ∈ r,∀ b ∈ y,b≠c):Jz (Lib.join (x :: r) [c]) [c]=x :: r:=by
  unfold Jz
  rw [Lib.splitB_data]
  have hc:Lib.countB (bA (Lib.join (x :: r) [c])) (bA [c])=r.length:=by
    show Lib.count (Lib.join (x :: r) [c]) [c]=_
    rw [Lib.count_one,Lib.join_cons,List.count_append,List.count_eq_zero.2 (fun hm=>hx c hm rfl),Vt r hr,Nat.zero_add]
  rw [hc]
  show Lib.splitK [c] 0 r.length (Lib.join (x :: r) [c])=_
  rw [Lib.join_cons,Uj r x hx hr]
end Go.KB
