/- Lemmas of this proof (texts CrcM CrcD FrmP FrmQ CabP LnkP). -/
import Derived.Test.YtcbnhebiagdbiaaGreatDoorPkA1
namespace Go.Proofs.YtcbnhebiagdbiaaGreatDoor
set_option maxHeartbeats 64000000
section
def rems:List (BitVec 32):=[0,498536548,997073096,651767980,1994146192,1802195444,1303535960,1342533948,3988292384,4027552580,3604390888,3412177804,2607071920,2262029012,2685067896,3183342108]
def rem4 (r:BitVec 32):BitVec 32:=rems.getD (r &&& 15).toNat 0
def nib (r:BitVec 32):BitVec 32:=(r >>> 4) ^^^ rem4 r
theorem nib_fold (r:BitVec 32):(r >>> 4) ^^^ rem4 r=nib r:=rfl
def stepB (r:BitVec 32) (x:BitVec 8):BitVec 32:=nib (nib (r ^^^ x.setWidth 32))
def reg (r:BitVec 32) (bs:List (BitVec 8)):BitVec 32:=bs.foldl stepB r
def crcUpd (s:BitVec 32) (bs:List (BitVec 8)):BitVec 32 := ~~~ (reg (~~~ s) bs)
def csum (bs:List (BitVec 8)):BitVec 32:=crcUpd 0 bs
theorem take_getD {α : Type} (l:List α) (k:Nat) (d : α) (h:k < l.length):l.take (k+1)=l.take k++[l.getD k d]:=by
 rw [List.take_succ_eq_append_getElem h];simp [List.getD,h]
theorem reg_snoc (r:BitVec 32) (bs:List (BitVec 8)) (k:Nat) (h:k < bs.length):reg r (bs.take (k+1))=stepB (reg r (bs.take k)) (bs.getD k 0):=by
 rw [take_getD bs k 0 h];simp [reg]
def T1 (r:BitVec 32):BitVec 32:=(r >>> 1) ^^^ (if r.getLsbD 0 then 3988292384#32 else 0#32)
def T:Nat->BitVec 32->BitVec 32
 |0,r=>r
 |n+1,r=>T n (T1 r)
end

section
def le4 (s:BitVec 32):List (BitVec 8):=[s.setWidth 8,(s >>> 8).setWidth 8,(s >>> 16).setWidth 8,(s >>> 24).setWidth 8]
def sealed (bs:List (BitVec 8)):List (BitVec 8):=bs++le4 (csum bs)
theorem le4_take (s:BitVec 32) (k:Nat) (h:k < 4):(le4 s).take (k+1)=(le4 s).take k++[(s >>> (8*k)).setWidth 8]:=by
 have:k=0\/k=1\/k=2\/k=3:=by omega
 rcases this with rfl|rfl|rfl|rfl <;> simp [le4]
theorem sealed_length (bs:List (BitVec 8)):(sealed bs).length=bs.length+4:=by simp [sealed,le4]
def rd4 (l:List (BitVec 8)):Nat->BitVec 32
 |0=>0#32
 |k+1=>rd4 l k ||| ((l.getD k 0).setWidth 32 <<< (8*k))
theorem rd4_toNat (a b c d:BitVec 8):(rd4 [a,b,c,d] 4).toNat=a.toNat+256*b.toNat+65536*c.toNat+16777216*d.toNat:=by
 have ha:=a.isLt;have hb:=b.isLt;have hc:=c.isLt;have hd:=d.isLt
 have j:∀(i x y:Nat),x < 2 ^ i->x ||| y*2 ^ i=x+y*2 ^ i:=by
  intro i x y hx
  rw [Nat.or_comm,Nat.mul_comm,<-Nat.two_pow_add_eq_or_of_lt hx,Nat.add_comm]
 show ((((0#32 ||| (a.setWidth 32 <<< 0)) ||| (b.setWidth 32 <<< 8)) ||| (c.setWidth 32 <<< 16)) ||| (d.setWidth 32 <<< 24)).toNat=_
 simp only [BitVec.toNat_or,BitVec.toNat_shiftLeft,BitVec.toNat_setWidth,Nat.shiftLeft_eq]
 have e0:(0#32).toNat=0:=rfl
 have e1:a.toNat % 2 ^ 32*2 ^ 0 % 2 ^ 32=a.toNat:=by
  rw [Nat.mod_eq_of_lt (show a.toNat < 2 ^ 32 by omega)];rw [Nat.pow_zero,Nat.mul_one];exact Nat.mod_eq_of_lt (by omega)
 have e2:b.toNat % 2 ^ 32*2 ^ 8 % 2 ^ 32=b.toNat*2 ^ 8:=by
  rw [Nat.mod_eq_of_lt (show b.toNat < 2 ^ 32 by omega)];exact Nat.mod_eq_of_lt (by omega)
 have e3:c.toNat % 2 ^ 32*2 ^ 16 % 2 ^ 32=c.toNat*2 ^ 16:=by
  rw [Nat.mod_eq_of_lt (show c.toNat < 2 ^ 32 by omega)];exact Nat.mod_eq_of_lt (by omega)
 have e4:d.toNat % 2 ^ 32*2 ^ 24 % 2 ^ 32=d.toNat*2 ^ 24:=by
  rw [Nat.mod_eq_of_lt (show d.toNat < 2 ^ 32 by omega)];exact Nat.mod_eq_of_lt (by omega)
 rw [e0,e1,e2,e3,e4,Nat.zero_or,j 8 _ _ ha,j 16 _ _ (by omega),j 24 _ _ (by omega)]
 omega
theorem rd4_le4 (s:BitVec 32):rd4 (le4 s) 4=s:=by
 apply BitVec.eq_of_toNat_eq
 have:=s.isLt
 unfold le4
 rw [rd4_toNat]
 simp only [BitVec.toNat_setWidth,BitVec.toNat_ushiftRight,Nat.shiftRight_eq_div_pow]
 omega
theorem le4_rd4 (l:List (BitVec 8)) (h:l.length=4):le4 (rd4 l 4)=l:=by
 match l,h with
 |[a,b,c,d],_=>
  have e:=rd4_toNat a b c d
  have ha:=a.isLt;have hb:=b.isLt;have hc:=c.isLt;have hd:=d.isLt
  unfold le4
  simp only [List.cons.injEq,and_true]
  refine ⟨?_,?_,?_,?_⟩ <;> apply BitVec.eq_of_toNat_eq <;>
   simp only [BitVec.toNat_setWidth,BitVec.toNat_ushiftRight,Nat.shiftRight_eq_div_pow,e] <;> omega
def cK (bs:List (BitVec 8)):Bool:=rd4 (bs.drop (bs.length - 4)) 4 == csum (bs.take (bs.length - 4))
theorem isSealed_iff (bs:List (BitVec 8)) (h:4<=bs.length):cK bs=true↔bs=sealed (bs.take (bs.length - 4)):=by
 unfold cK sealed
 rw [beq_iff_eq]
 have hl:(bs.drop (bs.length - 4)).length=4:=by rw [List.length_drop];omega
 constructor
 ·intro e
  rw [<-e,le4_rd4 _ hl,List.take_append_drop]
 ·intro e
  have e2:bs.drop (bs.length - 4)=le4 (csum (bs.take (bs.length - 4))):=by
   have t:=List.take_append_drop (bs.length - 4) bs
   exact List.append_cancel_left (t.trans e)
  rw [e2,rd4_le4]
theorem isSealed_sealed (bs:List (BitVec 8)):cK (sealed bs)=true:=by
 have h:=sealed_length bs
 rw [isSealed_iff _ (by omega),h]
 have:(sealed bs).take (bs.length+4 - 4)=bs:=by
  rw [Nat.add_sub_cancel];unfold sealed;simp
 rw [this]
end

section
abbrev Byte:=BitVec 8
def vs:List Byte:=[7,11,13,14,19,21,22,25,26,28,35,37,38,41,42,44,49,50,52,56]
def sym (n:Nat):Byte:=vs.getD n 0
def idx (s:Byte):Nat:=vs.findIdx (· == s)
def isData (s:Byte):Bool:=decide (idx s < 16)
theorem idx_le:∀s:Byte,idx s<=20:=by decide +kernel
theorem idx_sym:∀n:Fin 20,idx (sym n.val)=n.val:=by decide +kernel
theorem sym_idx:∀s:Byte,idx s < 20->sym (idx s)=s:=by decide +kernel
theorem idx_sym_lt {n:Nat} (h:n < 20):idx (sym n)=n:=idx_sym ⟨n,h⟩
def encS (bs:List Byte):List Byte:=bs.flatMap fun x=>[sym (x.toNat / 16),sym (x.toNat % 16)]
theorem encS_cons (x:Byte) (bs:List Byte):encS (x::bs)=sym (x.toNat / 16)::sym (x.toNat % 16)::encS bs:=rfl
theorem encS_app (a b:List Byte):encS (a++b)=encS a++encS b:=by unfold encS;rw [List.flatMap_append]
theorem encS_length:∀bs:List Byte,(encS bs).length=2*bs.length
 |[]=>rfl
 |x::bs=>by rw [encS_cons,List.length_cons,List.length_cons,encS_length bs,List.length_cons];omega
theorem isData_sym {n:Nat} (h:n < 16):isData (sym n)=true:=by unfold isData;rw [idx_sym_lt (by omega)];simpa using h
theorem encS_data:∀bs:List Byte,∀s ∈ encS bs,isData s=true
 |[],s,h=>by cases h
 |x::bs,s,h=>by
  have hx:=x.isLt
  rw [encS_cons] at h
  rcases List.mem_cons.1 h with rfl|h
  ·exact isData_sym (by omega)
  ·rcases List.mem_cons.1 h with rfl|h
   ·exact isData_sym (by omega)
   ·exact encS_data bs s h
def decB:List Byte->List Byte
 |a::b::l=>BitVec.ofNat 8 (16*idx a+idx b)::decB l
 |_=>[]
theorem decB_encS:∀bs:List Byte,decB (encS bs)=bs
 |[]=>rfl
 |x::bs=>by
  have hx:=x.isLt
  rw [encS_cons]
  show BitVec.ofNat 8 (16*idx _+idx _)::decB (encS bs)=_
  rw [decB_encS bs,idx_sym_lt (by omega),idx_sym_lt (by omega)]
  congr 1
  apply BitVec.eq_of_toNat_eq
  rw [BitVec.toNat_ofNat]
  omega
theorem decB_length:∀ss:List Byte,(decB ss).length=ss.length / 2
 |[]=>rfl
 |[_]=>by simp [decB]
 |a::b::l=>by show (decB l).length+1=(l.length+2) / 2;rw [decB_length l];omega
theorem decB_app:∀(ss:List Byte) (a b:Byte),ss.length % 2=0->decB (ss++[a,b])=decB ss++[BitVec.ofNat 8 (16*idx a+idx b)]
 |[],_,_,_=>rfl
 |[x],_,_,h=>by simp at h
 |x::y::l,a,b,h=>by
  show _::decB (l++[a,b])=_
  rw [decB_app l a b (by simp only [List.length_cons] at h;omega)];rfl
def decS (ss:List Byte):List Byte × Int × Int:=
 match ss.findIdx? fun s => !isData s with
 |some i=>([],(i:Int),3)
 |none=>if ss.length % 2=0 then (decB ss,-1,0) else ([],(ss.length:Int),4)
theorem decS_good {ss:List Byte} (hd:∀s ∈ ss,isData s=true) (h:ss.length % 2=0):decS ss=(decB ss,-1,0):=by
 unfold decS
 rw [List.findIdx?_eq_none_iff.2 fun s hs=>by simp [hd s hs]]
 exact if_pos h
theorem decS_odd {ss:List Byte} (hd:∀s ∈ ss,isData s=true) (h:¬ss.length % 2=0):decS ss=([],(ss.length:Int),4):=by
 unfold decS
 rw [List.findIdx?_eq_none_iff.2 fun s hs=>by simp [hd s hs]]
 exact if_neg h
theorem decS_bad {ss:List Byte} {i:Nat} (h:ss.findIdx? (fun s => !isData s)=some i):decS ss=([],(i:Int),3):=by
 unfold decS;rw [h]
theorem decS_encS (bs:List Byte):decS (encS bs)=(bs,-1,0):=by
 rw [decS_good (encS_data bs) (by rw [encS_length];omega),decB_encS]
structure Pk where
 kind:Byte
 cls:Int
 number:Int
 value:Int
 pay:List Byte
deriving DecidableEq
def Pk.zero:Pk:=⟨0,0,0,0,[]⟩
def validP (p:Pk):Bool := !(p.kind == 0) && decide (0<=p.cls) && decide (p.cls < 4) && decide (0<=p.number) && decide (p.number < 1099511627776) && decide (0<=p.value) && decide (p.value < 1099511627776) && decide (p.pay.length<=64)
structure Good (p:Pk):Prop where
 kind:p.kind≠0
 c0:0<=p.cls
 c1:p.cls < 4
 n0:0<=p.number
 n1:p.number < 1099511627776
 v0:0<=p.value
 v1:p.value < 1099511627776
 pay:p.pay.length<=64
theorem validP_iff {p:Pk}:validP p=true↔Good p:=by
 unfold validP
 simp only [Bool.and_eq_true,decide_eq_true_eq,Bool.not_eq_true',beq_eq_false_iff_ne]
 exact ⟨fun ⟨⟨⟨⟨⟨⟨⟨a,b⟩,c⟩,d⟩,e⟩,f⟩,g⟩,h⟩=>⟨a,b,c,d,e,f,g,h⟩,fun ⟨a,b,c,d,e,f,g,h⟩=>⟨⟨⟨⟨⟨⟨⟨a,b⟩,c⟩,d⟩,e⟩,f⟩,g⟩,h⟩⟩
def dig (n k:Nat):Byte:=BitVec.ofNat 8 (n / 2 ^ (8*(4 - k)))
def five (n:Nat):List Byte:=[dig n 0,dig n 1,dig n 2,dig n 3,dig n 4]
theorem five_take (n k:Nat) (h:k < 5):(five n).take (k+1)=(five n).take k++[dig n k]:=by
 have:k=0\/k=1\/k=2\/k=3\/k=4:=by omega
 rcases this with rfl|rfl|rfl|rfl|rfl <;> rfl
def num (l:List Byte):Nat->Nat
 |0=>0
 |k+1=>256*num l k+(l.getD k 0).toNat
theorem num_lt (l:List Byte):∀k,num l k < 256 ^ k
 |0=>by simp [num]
 |k+1=>by
  have h1:=num_lt l k
  have h2:=(l.getD k 0).isLt
  show 256*num l k+_ < 256 ^ (k+1)
  rw [Nat.pow_succ]
  have:num l k+1<=256 ^ k:=h1
  have:(num l k+1)*256<=256 ^ k*256:=Nat.mul_le_mul_right _ this
  omega
theorem num_five (n:Nat) (h:n < 1099511627776) (l:List Byte):num (five n++l) 5=n:=by
 show 256*(256*(256*(256*(256*0+(dig n 0).toNat)+(dig n 1).toNat)+(dig n 2).toNat)+(dig n 3).toNat)+(dig n 4).toNat=n
 simp only [dig,BitVec.toNat_ofNat,Nat.reduceSub,Nat.reduceMul,Nat.reducePow]
 omega
def headP (p:Pk):List Byte:=[p.kind,BitVec.ofInt 8 p.cls]++five p.number.toNat++five p.value.toNat++[BitVec.ofNat 8 p.pay.length]
theorem headP_length (p:Pk):(headP p).length=13:=rfl
def bodyP (p:Pk):List Byte:=headP p++p.pay
def encP (p:Pk):List Byte:=sealed (bodyP p)
theorem encP_length (p:Pk):(encP p).length=p.pay.length+17:=by unfold encP bodyP;rw [sealed_length,List.length_append,headP_length];omega
def bJ (b:List Byte):Pk:=⟨b.getD 0 0,((b.getD 1 0).toNat:Int),(num (b.drop 2) 5:Nat),(num (b.drop 7) 5:Nat),b.drop 13⟩
def decP (b:List Byte):Pk × Int:=
 if b.length < 17 then (Pk.zero,4)
 else if 64 < (b.getD 12 0).toNat\/(b.getD 12 0).toNat+17≠b.length then (Pk.zero,3)
 else if cK b=false then (Pk.zero,9)
 else if validP (bJ (b.take (b.length - 4)))=false then (Pk.zero,1)
 else (bJ (b.take (b.length - 4)),0)
theorem decP_short {b:List Byte} (h:b.length < 17):decP b=(Pk.zero,4):=by unfold decP;rw [if_pos h]
theorem decP_form {b:List Byte} (h:17<=b.length) (h2:64 < (b.getD 12 0).toNat\/(b.getD 12 0).toNat+17≠b.length):decP b=(Pk.zero,3):=by
 unfold decP;rw [if_neg (by omega),if_pos h2]
theorem decP_sum {b:List Byte} (h:17<=b.length) (h2:(b.getD 12 0).toNat<=64/\(b.getD 12 0).toNat+17=b.length) (h3:cK b=false):decP b=(Pk.zero,9):=by
 unfold decP;rw [if_neg (by omega),if_neg (by omega),if_pos h3]
theorem decP_arg {b:List Byte} (h:17<=b.length) (h2:(b.getD 12 0).toNat<=64/\(b.getD 12 0).toNat+17=b.length) (h3:cK b=true) (h4:validP (bJ (b.take (b.length - 4)))=false):decP b=(Pk.zero,1):=by
 unfold decP;rw [if_neg (by omega),if_neg (by omega),if_neg (by simp [h3]),if_pos h4]
theorem decP_ok {b:List Byte} (h:17<=b.length) (h2:(b.getD 12 0).toNat<=64/\(b.getD 12 0).toNat+17=b.length) (h3:cK b=true) (h4:validP (bJ (b.take (b.length - 4)))=true):decP b=(bJ (b.take (b.length - 4)),0):=by
 unfold decP;rw [if_neg (by omega),if_neg (by omega),if_neg (by simp [h3]),if_neg (by simp [h4])]
theorem decP_cases (b:List Byte):(b.length < 17/\decP b=(Pk.zero,4))\/(17<=b.length/\(64 < (b.getD 12 0).toNat\/(b.getD 12 0).toNat+17≠b.length)/\decP b=(Pk.zero,3)) \/
  (17<=b.length/\((b.getD 12 0).toNat<=64/\(b.getD 12 0).toNat+17=b.length)/\((cK b=false/\decP b=(Pk.zero,9))\/(cK b=true /\
   ((validP (bJ (b.take (b.length - 4)))=false/\decP b=(Pk.zero,1))\/(validP (bJ (b.take (b.length - 4)))=true/\decP b=(bJ (b.take (b.length - 4)),0)))))):=by
 by_cases h:b.length < 17
 ·exact .inl ⟨h,decP_short h⟩
 ·by_cases h2:64 < (b.getD 12 0).toNat\/(b.getD 12 0).toNat+17≠b.length
  ·exact .inr (.inl ⟨by omega,h2,decP_form (by omega) h2⟩)
  ·refine .inr (.inr ⟨by omega,by omega,?_⟩)
   cases h3:cK b with
   |false=>exact .inl ⟨rfl,decP_sum (by omega) (by omega) h3⟩
   |true=>
    refine .inr ⟨rfl,?_⟩
    cases h4:validP (bJ (b.take (b.length - 4))) with
    |false=>exact .inl ⟨rfl,decP_arg (by omega) (by omega) h3 h4⟩
    |true=>exact .inr ⟨rfl,decP_ok (by omega) (by omega) h3 h4⟩
theorem getD_app_left {α : Type} {l r:List α} {k:Nat} {d : α} (h:k < l.length):(l++r).getD k d=l.getD k d:=by
 simp [List.getD,List.getElem?_append_left h]
theorem encP_12 (p:Pk) (h:p.pay.length<=64):((encP p).getD 12 0).toNat=p.pay.length:=by
 unfold encP sealed bodyP
 rw [List.append_assoc,getD_app_left (by rw [headP_length];omega)]
 show (BitVec.ofNat 8 p.pay.length).toNat=_
 rw [BitVec.toNat_ofNat];omega
theorem encP_body (p:Pk):(encP p).take ((encP p).length - 4)=bodyP p:=by
 unfold encP
 rw [sealed_length,Nat.add_sub_cancel]
 unfold sealed
 exact List.take_left
theorem ofBody_bodyP {p:Pk} (h:Good p):bJ (bodyP p)=p:=by
 obtain ⟨k,c,n,v,pay⟩:=p
 have h1:=h.c0;have h2:=h.c1;have h3:=h.n0;have h4:=h.n1;have h5:=h.v0;have h6:=h.v1
 dsimp only at h1 h2 h3 h4 h5 h6
 have e1:(num (five n.toNat++(five v.toNat++[BitVec.ofNat 8 pay.length]++pay)) 5:Nat)=n.toNat:=num_five _ (by omega) _
 have e2:(num (five v.toNat++([BitVec.ofNat 8 pay.length]++pay)) 5:Nat)=v.toNat:=num_five _ (by omega) _
 show (⟨k,((BitVec.ofInt 8 c).toNat:Int),(num (five n.toNat++(five v.toNat++[BitVec.ofNat 8 pay.length]++pay)) 5:Nat),(num (five v.toNat++([BitVec.ofNat 8 pay.length]++pay)) 5:Nat),pay⟩:Pk)=_
 rw [e1,e2]
 have e3:((BitVec.ofInt 8 c).toNat:Int)=c:=by
  rw [BitVec.toNat_ofInt]
  omega
 rw [e3,Int.toNat_of_nonneg h3,Int.toNat_of_nonneg h5]
theorem decP_encP {p:Pk} (h:Good p):decP (encP p)=(p,0):=by
 have hl:=encP_length p
 have h12:=encP_12 p h.pay
 have hp:=h.pay
 rw [decP_ok (b:=encP p) (by omega) (by rw [h12];omega) (isSealed_sealed _) (by rw [encP_body,ofBody_bodyP h,validP_iff];exact h),encP_body,ofBody_bodyP h]
def symP (p:Pk):List Byte:=49::(encS (encP p)++[50])
structure Sc where
 inside:Bool
 data:List Byte
 bad:Nat
def Sc.new:Sc:=⟨false,[],0⟩
def Sc.push (s:Sc) (x:Byte):Sc × Option Pk:=
 if x=49 then (⟨true,[],if s.inside then s.bad+1 else s.bad⟩,none)
 else if s.inside=false then (s,none)
 else if isData x=true/\s.data.length < 162 then (⟨true,s.data++[x],s.bad⟩,none)
 else if x=50/\(decS s.data).2.2=0/\(decP (decS s.data).1).2=0 then (⟨false,[],s.bad⟩,some (decP (decS s.data).1).1)
 else (⟨false,[],s.bad+1⟩,none)
def Sc.scan (s:Sc):List Byte->Sc × List Pk
 |[]=>(s,[])
 |x::l=>(((s.push x).1.scan l).1,(s.push x).2.toList++((s.push x).1.scan l).2)
theorem Sc.scan_app (s:Sc):∀(a b:List Byte),s.scan (a++b)=(((s.scan a).1.scan b).1,(s.scan a).2++((s.scan a).1.scan b).2)
 |[],b=>rfl
 |x::l,b=>by
  have h:=Sc.scan_app (s.push x).1 l b
  have e1:s.scan (x::(l++b))=(((s.push x).1.scan (l++b)).1,(s.push x).2.toList++((s.push x).1.scan (l++b)).2):=rfl
  have e2:s.scan (x::l)=(((s.push x).1.scan l).1,(s.push x).2.toList++((s.push x).1.scan l).2):=rfl
  rw [List.cons_append,e1,e2,h,List.append_assoc]
end

section
theorem data_ne:∀x:Byte,isData x=true->x≠49/\x≠50:=by decide +kernel
theorem scan_data (d:List Byte) (b:Nat):∀(ds:List Byte),(∀s ∈ ds,isData s=true)->d.length+ds.length<=162->(⟨true,d,b⟩:Sc).scan ds=(⟨true,d++ds,b⟩,[])
 |[],_,_=>by simp [Sc.scan]
 |x::l,hd,hl=>by
  have hx:=hd x (by simp)
  simp only [List.length_cons] at hl
  have hp:(⟨true,d,b⟩:Sc).push x=(⟨true,d++[x],b⟩,none):=by
   unfold Sc.push
   rw [if_neg (data_ne x hx).1,if_neg (by simp),if_pos ⟨hx,by show d.length < 162;omega⟩]
  have h:=scan_data (d++[x]) b l (fun s hs=>hd s (by simp [hs])) (by simp;omega)
  show (((⟨true,d,b⟩:Sc).push x).1.scan l |>.1,((⟨true,d,b⟩:Sc).push x).2.toList++(((⟨true,d,b⟩:Sc).push x).1.scan l).2)=_
  rw [hp,h,List.append_assoc];rfl
theorem scan_out (s:Sc) (h:s.inside=false):∀l:List Byte,(∀x ∈ l,x≠49)->s.scan l=(s,[])
 |[],_=>rfl
 |x::l,hx=>by
  have hp:s.push x=(s,none):=by
   unfold Sc.push
   rw [if_neg (hx x (by simp)),if_pos h]
  show ((s.push x).1.scan l |>.1,(s.push x).2.toList++((s.push x).1.scan l).2)=_
  rw [hp,scan_out s h l fun y hy=>hx y (by simp [hy])];rfl
theorem push_start (s:Sc):s.push 49=(⟨true,[],if s.inside then s.bad+1 else s.bad⟩,none):=by unfold Sc.push;rw [if_pos rfl]
theorem scan_cons (s:Sc) (x:Byte) (l:List Byte):s.scan (x::l)=(((s.push x).1.scan l).1,(s.push x).2.toList++((s.push x).1.scan l).2):=rfl
theorem scan_sym {p:Pk} (h:Good p) (s:Sc):s.scan (symP p)=(⟨false,[],if s.inside then s.bad+1 else s.bad⟩,[p]):=by
 have hp:=h.pay
 have hl:(encS (encP p)).length<=162:=by rw [encS_length,encP_length];omega
 unfold symP
 rw [scan_cons,push_start]
 generalize (if s.inside then s.bad+1 else s.bad)=b
 have hd:=scan_data [] b (encS (encP p)) (encS_data _) (by simpa using hl)
 rw [Sc.scan_app,hd,List.nil_append]
 have hq:(⟨true,encS (encP p),b⟩:Sc).push 50=(⟨false,[],b⟩,some p):=by
  unfold Sc.push
  have e1:decS (encS (encP p))=(encP p,-1,0):=decS_encS _
  rw [if_neg (by decide),if_neg (by simp),if_neg (fun hh=>absurd hh.1 (by decide))]
  show (if (50:Byte)=50/\(decS (encS (encP p))).2.2=0/\(decP (decS (encS (encP p))).1).2=0 then ((⟨false,[],b⟩:Sc),some (decP (decS (encS (encP p))).1).1) else (⟨false,[],b+1⟩,none))=_
  rw [e1]
  show (if (50:Byte)=50/\(0:Int)=0/\(decP (encP p)).2=0 then ((⟨false,[],b⟩:Sc),some (decP (encP p)).1) else (⟨false,[],b+1⟩,none))=_
  rw [decP_encP h]
  rfl
 rw [scan_cons,hq];rfl
def flipS (x:Byte) (k:Nat):Byte:=x ^^^ (1#8 <<< (5 - k))
theorem flipS_bad:∀(n:Fin 20) (k:Fin 6),idx (flipS (sym n.val) k.val)=20:=by decide +kernel
theorem flipS_bad' {x:Byte} (h:idx x < 20) {k:Nat} (hk:k < 6):idx (flipS x k)=20:=by
 have:=flipS_bad ⟨idx x,h⟩ ⟨k,hk⟩
 rwa [sym_idx x h] at this
theorem bad_ne:∀x:Byte,idx x=20->x≠49/\x≠50/\isData x=false:=by decide +kernel
theorem scan_broken {p:Pk} (h:Good p) {i:Nat} (hi:i < (symP p).length) (y:Byte) (hy:idx y=20):∃b,b<=1/\Sc.new.scan ((symP p).set i y)=(⟨false,[],b⟩,[]):=by
 obtain ⟨h1,h2,h3⟩:=bad_ne y hy
 have hp:=h.pay
 have hl:(encS (encP p)).length<=162:=by rw [encS_length,encP_length];omega
 have h49:∀x ∈ encS (encP p)++[50],x≠(49:Byte):=fun x hx=>by
  rcases List.mem_append.1 hx with hx|hx
  ·exact (data_ne x (encS_data _ x hx)).1
  ·rw [List.mem_singleton.1 hx];decide
 have hbad:∀(d:List Byte),(⟨true,d,0⟩:Sc).push y=(⟨false,[],1⟩,none):=fun d=>by
  unfold Sc.push
  rw [if_neg h1,if_neg (by simp),if_neg (fun hh=>by rw [h3] at hh;cases hh.1),if_neg (fun hh=>h2 hh.1)]
 have hset:∀x ∈ (encS (encP p)++[50]),∀n,x ∈ (encS (encP p)++[50]).drop n->x≠(49:Byte):=fun x hx _ _=>h49 x hx
 match i,hi with
 |0,_=>
  refine ⟨0,by omega,?_⟩
  show Sc.new.scan (y::(encS (encP p)++[50]))=_
  exact scan_out Sc.new rfl _ fun x hx=>by
   rcases List.mem_cons.1 hx with rfl|hx
   ·exact h1
   ·exact h49 x hx
 |i+1,hi=>
  refine ⟨1,by omega,?_⟩
  show Sc.new.scan (49::(encS (encP p)++[50]).set i y)=_
  have hi':i < (encS (encP p)++[50]).length:=by unfold symP at hi;simpa using hi
  rw [List.set_eq_take_append_cons_drop,if_pos hi',scan_cons,push_start,Sc.scan_app]
  have hil:i<=(encS (encP p)).length:=by simp at hi';omega
  have ht:(encS (encP p)++[50]).take i=(encS (encP p)).take i:=by rw [List.take_append_of_le_length hil]
  rw [ht]
  have hd:=scan_data [] 0 ((encS (encP p)).take i) (fun s hs=>encS_data _ s (List.mem_of_mem_take hs)) (by simp;omega)
  show (((⟨true,[],0⟩:Sc).scan _).1.scan _ |>.1,[]++(((⟨true,[],0⟩:Sc).scan _).2++(((⟨true,[],0⟩:Sc).scan _).1.scan _).2))=_
  rw [hd,scan_cons]
  show ((((⟨true,[]++(encS (encP p)).take i,0⟩:Sc).push y).1.scan _).1,[]++([]++(((⟨true,[]++(encS (encP p)).take i,0⟩:Sc).push y).2.toList++(((⟨true,[]++(encS (encP p)).take i,0⟩:Sc).push y).1.scan _).2)))=_
  rw [hbad,scan_out ⟨false,[],1⟩ rfl _ fun x hx=>h49 x (List.mem_of_mem_drop hx)]
  rfl
theorem sym_valid (p:Pk):∀x ∈ symP p,idx x < 20:=fun x hx=>by
 unfold symP at hx
 rcases List.mem_cons.1 hx with rfl|hx
 ·decide
 ·rcases List.mem_append.1 hx with hx|hx
  ·have:=encS_data _ x hx
   unfold isData at this
   have h16:idx x < 16:=by simpa using this
   omega
  ·rw [List.mem_singleton.1 hx];decide
end

section
structure Flt where
 at':Int
 kind:Int
 arg:Int
def Flt.zero:Flt:=⟨0,0,0⟩
def Asc (fs:List Flt):Prop:=∀(i j:Nat) (f g:Flt),i < j->fs[i]? = some f->fs[j]? = some g->f.at' < g.at'
def faultOf (fs:List Flt) (t:Int):Flt:=match fs.find? (fun f=>f.at' == t) with|some f=>f|none=>Flt.zero
def okF:Int->List Flt->Bool
 |_,[]=>true
 |last,f::fs=>decide (last < f.at') && decide (1<=f.kind) && decide (f.kind<=3) && decide (0<=f.arg) && okF f.at' fs
theorem okF_asc:∀ {fs:List Flt} {last:Int},okF last fs=true->Asc fs/\(∀(i:Nat) f,fs[i]? = some f->last < f.at'/\1<=f.kind/\f.kind<=3/\0<=f.arg)
 |[],_,_=>⟨fun i j f g _ h=>by simp at h,fun i f h=>by simp at h⟩
 |a::fs,last,h=>by
  simp only [okF,Bool.and_eq_true,decide_eq_true_eq] at h
  obtain ⟨⟨⟨⟨h1,h2⟩,h3⟩,h4⟩,h5⟩:=h
  obtain ⟨ha,hb⟩:=okF_asc h5
  refine ⟨fun i j f g hij hf hg=>?_,fun i f hf=>?_⟩
  ·match j,hg with
   |j+1,hg=>
    have hg':fs[j]? = some g:=by simpa using hg
    match i,hf with
    |0,hf=>
     obtain rfl:a=f:=by simpa using hf
     exact (hb j g hg').1
    |i+1,hf=>exact ha i j f g (by omega) (by simpa using hf) hg'
  ·match i,hf with
   |0,hf=>
    obtain rfl:a=f:=by simpa using hf
    exact ⟨h1,h2,h3,h4⟩
   |i+1,hf=>
    have:=hb i f (by simpa using hf)
    exact ⟨by omega,this.2⟩
theorem faultOf_at {fs:List Flt} (ha:Asc fs) {t:Int} {i:Nat} {f:Flt} (hi:fs[i]? = some f) (ht:f.at'=t):faultOf fs t=f:=by
 have h:fs.find? (fun f=>f.at' == t)=some f:=by
  rw [List.find?_eq_some_iff_getElem]
  have hl:i < fs.length:=by
   rcases Nat.lt_or_ge i fs.length with h|h
   ·exact h
   ·rw [List.getElem?_eq_none h] at hi;cases hi
  refine ⟨by simpa using ht,i,hl,?_,fun j hj=>?_⟩
  ·rw [List.getElem?_eq_getElem hl] at hi;exact Option.some.inj hi
  ·have:=ha j i _ f hj (List.getElem?_eq_getElem (by omega)) hi
   simp;omega
 unfold faultOf;rw [h]
theorem faultOf_none {fs:List Flt} {t:Int} (h:∀(i:Nat) f,fs[i]? = some f->f.at'≠t):faultOf fs t=Flt.zero:=by
 have h:fs.find? (fun f=>f.at' == t)=none:=by
  rw [List.find?_eq_none]
  intro f hf
  obtain ⟨i,hi⟩:=List.getElem?_of_mem hf
  simpa using h i f hi
 unfold faultOf;rw [h]
abbrev Byt:=List (BitVec 8)
structure Cab where
 cB:Nat
 bZ:List Flt
 up:Bool
 cC:Nat
 cP:Nat
 lost:Nat
 aL:List (Nat × Byt)
def flipB (d:Byt) (arg:Int):Byt:=
 if d=[] then d else d.modify (((arg % (6*d.length)).toNat) / 6) (fun x=>x ^^^ (1 <<< (((arg % (6*d.length)).toNat) % 6)))
def Cab.fault (c:Cab):Flt:=faultOf c.bZ c.cP
def Cab.copies (c:Cab):Nat:=if c.fault.kind=3 then 2 else 1
def Cab.what (c:Cab) (d:Byt):Byt:=if c.fault.kind=2 then flipB d c.fault.arg else d
def Cab.send (c:Cab) (d:Byt):Nat × Cab:=
 if c.up=false\/c.fault.kind=1 then (0,{ c with cP:=c.cP+1,lost:=c.lost+1 })
 else if 64 < c.aL.length+c.copies then (5,{ c with cP:=c.cP+1,lost:=c.lost+1 })
 else (0,{ c with cP:=c.cP+1,aL:=c.aL++List.replicate c.copies (c.cC+c.cB,c.what d) })
def Cab.bV (c:Cab):List (Nat × Byt):=c.aL.takeWhile (fun x=>decide (x.1<=c.cC+1))
def Cab.cR (c:Cab):List Byt × Cab:=(c.bV.map (·.2),{ c with cC:=c.cC+1,aL:=c.aL.drop c.bV.length })
def Cab.cut (c:Cab):Cab:={ c with up:=false,lost:=c.lost+c.aL.length,aL:=[] }
def Cab.mend (c:Cab):Cab:={ c with up:=true }
def Cab.new (cB:Nat) (fs:List Flt):Cab:=⟨cB,fs,true,0,0,0,[]⟩
structure Cab.Ok (c:Cab):Prop where
 d1:1<=c.cB
 d2:c.cB<=100
 asc:Asc c.bZ
 each:∀(i:Nat) f,c.bZ[i]? = some f->1<=f.kind/\f.kind<=3/\0<=f.arg
 fly:c.aL.length<=64
theorem Cab.Ok.fault {c:Cab} (h:c.Ok):0<=c.fault.kind/\c.fault.kind<=3/\0<=c.fault.arg:=by
 unfold Cab.fault faultOf
 cases hf:c.bZ.find? (fun f=>f.at' == (c.cP:Int)) with
 |none=>exact ⟨Int.le_refl _,by decide,Int.le_refl _⟩
 |some f=>
  obtain ⟨i,hi⟩:=List.getElem?_of_mem (List.mem_of_find?_eq_some hf)
  have:=h.each i f hi
  show 0<=f.kind/\f.kind<=3/\0<=f.arg
  exact ⟨by omega,this.2.1,this.2.2⟩
theorem Cab.copies_le (c:Cab):1<=c.copies/\c.copies<=2:=by unfold Cab.copies;split <;> omega
theorem Cab.new_ok {cB:Nat} {fs:List Flt} (h1:1<=cB) (h2:cB<=100) (h:okF (-1) fs=true):(Cab.new cB fs).Ok:=
 ⟨h1,h2,(okF_asc h).1,fun i f hi=>((okF_asc h).2 i f hi).2,Nat.zero_le _⟩
theorem Cab.send_ok {c:Cab} (h:c.Ok) (d:Byt):(c.send d).2.Ok:=by
 unfold Cab.send
 by_cases h1:c.up=false\/c.fault.kind=1
 ·rw [if_pos h1];exact ⟨h.d1,h.d2,h.asc,h.each,h.fly⟩
 ·rw [if_neg h1]
  by_cases h2:64 < c.aL.length+c.copies
  ·rw [if_pos h2];exact ⟨h.d1,h.d2,h.asc,h.each,h.fly⟩
  ·rw [if_neg h2]
   exact ⟨h.d1,h.d2,h.asc,h.each,by simp;omega⟩
theorem Cab.tick_ok {c:Cab} (h:c.Ok):c.cR.2.Ok:=⟨h.d1,h.d2,h.asc,h.each,by have:=h.fly;simp [Cab.cR];omega⟩
theorem Cab.cut_ok {c:Cab} (h:c.Ok):c.cut.Ok:=⟨h.d1,h.d2,h.asc,h.each,Nat.zero_le _⟩
theorem Cab.mend_ok {c:Cab} (h:c.Ok):c.mend.Ok:=⟨h.d1,h.d2,h.asc,h.each,h.fly⟩
end

section
def Trn (x:Byt):Option Pk->Prop
 |some p=>Good p/\x=symP p
 |none=>∃(p:Pk) (i:Nat) (y:BitVec 8),Good p/\i < (symP p).length/\idx y=20/\x=(symP p).set i y
theorem scan_broken' {p:Pk} (h:Good p) {i:Nat} (hi:i < (symP p).length) (y:Byte) (hy:idx y=20) {s:Sc} (hs:s.inside=false):∃s',s'.inside=false/\s'.bad<=s.bad+1/\s.scan ((symP p).set i y)=(s',[]):=by
 obtain ⟨h1,h2,h3⟩:=bad_ne y hy
 have hp:=h.pay
 have hl:(encS (encP p)).length<=162:=by rw [encS_length,encP_length];omega
 have h49:∀x ∈ encS (encP p)++[50],x≠(49:Byte):=fun x hx=>by
  rcases List.mem_append.1 hx with hx|hx
  ·exact (data_ne x (encS_data _ x hx)).1
  ·rw [List.mem_singleton.1 hx];decide
 have hbad:∀(d:List Byte) (b:Nat),(⟨true,d,b⟩:Sc).push y=(⟨false,[],b+1⟩,none):=fun d b=>by
  unfold Sc.push
  rw [if_neg h1,if_neg (by simp),if_neg (fun hh=>by rw [h3] at hh;cases hh.1),if_neg (fun hh=>h2 hh.1)]
 match i,hi with
 |0,_=>
  refine ⟨s,hs,Nat.le_succ _,?_⟩
  show s.scan (y::(encS (encP p)++[50]))=_
  exact scan_out s hs _ fun x hx=>by
   rcases List.mem_cons.1 hx with rfl|hx
   ·exact h1
   ·exact h49 x hx
 |i+1,hi=>
  refine ⟨⟨false,[],s.bad+1⟩,rfl,Nat.le_refl _,?_⟩
  show s.scan (49::(encS (encP p)++[50]).set i y)=_
  have hi':i < (encS (encP p)++[50]).length:=by unfold symP at hi;simpa using hi
  rw [List.set_eq_take_append_cons_drop,if_pos hi',scan_cons,push_start,if_neg (by rw [hs];simp),Sc.scan_app]
  have hil:i<=(encS (encP p)).length:=by simp at hi';omega
  have ht:(encS (encP p)++[50]).take i=(encS (encP p)).take i:=by rw [List.take_append_of_le_length hil]
  rw [ht]
  have hd:=scan_data [] s.bad ((encS (encP p)).take i) (fun s hs=>encS_data _ s (List.mem_of_mem_take hs)) (by simp;omega)
  rw [hd,scan_cons,hbad,scan_out ⟨false,[],s.bad+1⟩ rfl _ fun x hx=>h49 x (List.mem_of_mem_drop hx)]
  rfl
theorem scan_trn {x:Byt} {o:Option Pk} (h:Trn x o) {s:Sc} (hs:s.inside=false):∃s',s'.inside=false/\s'.bad<=s.bad+1/\s.scan x=(s',o.toList):=by
 match o,h with
 |some p,⟨hg,hx⟩=>rw [hx,scan_sym hg,if_neg (by rw [hs];simp)];exact ⟨⟨false,[],s.bad⟩,rfl,Nat.le_succ _,rfl⟩
 |none,⟨p,i,y,hg,hi,hy,hx⟩=>rw [hx];exact scan_broken' hg hi y hy hs
inductive Trns:List Byt->List (Option Pk)->Prop
 |nil:Trns [] []
 |cons {x o xs os}:Trn x o->Trns xs os->Trns (x::xs) (o::os)
theorem scan_trns:∀ {xs:List Byt} {os:List (Option Pk)},Trns xs os->∀ {s:Sc},s.inside=false->∃s',s'.inside=false/\s'.bad<=s.bad+xs.length/\s.scan xs.flatten=(s',os.filterMap id)
 |_,_,.nil,s,hs=>⟨s,hs,Nat.le_refl _,rfl⟩
 |x::xs,o::os,.cons h t,s,hs=>by
  obtain ⟨s1,h1,b1,e1⟩:=scan_trn h hs
  obtain ⟨s2,h2,b2,e2⟩:=scan_trns t h1
  refine ⟨s2,h2,by rw [List.length_cons];omega,?_⟩
  rw [List.flatten_cons,Sc.scan_app,e1,e2]
  cases o <;> rfl
theorem flip_one {x:Byte} (h:idx x < 20) {k:Nat} (hk:k < 6):idx (x ^^^ (1 <<< k))=20:=by
 have:=flipS_bad' h (k:=5 - k) (by omega)
 unfold flipS at this
 rwa [show 5 - (5 - k)=k by omega] at this
theorem flip_trn {p:Pk} (h:Good p) (arg:Int):Trn (flipB (symP p) arg) none:=by
 have hne:symP p≠[]:=by unfold symP;simp
 have hlen:0 < (symP p).length:=List.length_pos_iff.2 hne
 unfold flipB
 rw [if_neg hne]
 generalize hm:(arg % (6*((symP p).length:Int))).toNat=m
 have hmlt:m < 6*(symP p).length:=by
  have h1:=Int.emod_nonneg arg (b:=6*((symP p).length:Int)) (by omega)
  have h2:=Int.emod_lt_of_pos arg (b:=6*((symP p).length:Int)) (by omega)
  omega
 have hi:m / 6 < (symP p).length:=by omega
 refine ⟨p,m / 6,(symP p)[m / 6] ^^^ (1 <<< (m % 6)),h,hi,flip_one (sym_valid p _ (List.getElem_mem hi)) (by omega),?_⟩
 refine List.ext_getElem? fun j=>?_
 rw [List.getElem?_modify,List.getElem?_set]
 by_cases hj:m / 6=j
 ·subst hj
  rw [if_pos rfl,if_pos hi,List.getElem?_eq_getElem hi]
  show some (if m / 6=m / 6 then _ else _)=_
  rw [if_pos rfl]
 ·rw [if_neg hj]
  cases (symP p)[j]? with
  |none=>rfl
  |some v=>show some (if m / 6=j then _ else _)=_;rw [if_neg hj]
end

end Go.Proofs.YtcbnhebiagdbiaaGreatDoor
