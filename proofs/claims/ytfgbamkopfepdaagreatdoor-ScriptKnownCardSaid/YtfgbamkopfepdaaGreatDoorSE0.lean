import Derived.Test.YtfgbamkopfepdaaGreatDoorSX
namespace Ev
open Go Go.Proofs
noncomputable def e0 : Ent where
  f := 33
  args := [(pA 26 0),(sB [115,117,98,32,49])]
  pre := [(26,⟨[sN,(nI 1),(nI 1),(nI 1),(nI 1),(nI 0),(sA 52 0 1 1),sN,(nI 0),(nI 1),(nI 0),(nI 0),(nI 0),(nI 0),(nI 0),(nI 0),(nI 0),(nI 0),(nI 0),(nI 0),(nI 0),(nI 0),sN],0,false⟩),
  (36,⟨[(nI 0),bF,sN,(nI 0),bF,bF,(nI 0),sN,(nI 0),bT,sN,(nI 0),bF,bF,(nI 0),sN,(nI 0),bF,sN,(nI 0),bF,bF,(nI 0),sN,(nI 0),bF,sN,(nI 0),bF,bF,(nI 0),sN,(nI 0),bF,sN,(nI 0),bF,bF,(nI 0),sN,(nI 0),bF,sN,(nI 0),bF,bF,(nI 0),sN,(nI 0),bF,sN,(nI 0),bF,bF,(nI 0),sN,(nI 0)],0,false⟩),
  (37,⟨[sN,(nI 0),(nI 1),sN,sN,(pA 36 0),(pA 42 0),(pA 44 0),sN,sN,sN,sN,(pA 50 0),sN,pN,(pA 96 0),pN,pN,pN,pN,pN,sN],0,false⟩),
  (42,⟨[sN,(nI 1),(nI 1),(nI 1),(nI 1),(nI 0),(nI 0),(nI 0),(nI 0),(nI 0),(nI 0),(nI 0),(nI 0),(nI 0),sN,sN],0,false⟩),
  (44,⟨[bT,sN,(sA 43 0 0 0),(nI 0),bF,bF,sN],0,false⟩),
  (52,⟨[(pA 37 0)],1,true⟩)]
  next := 102
  r := .ret (sB [111,107,32,49])
  post := [(26,⟨[sN,(nI 1),(nI 1),(nI 1),(nI 1),(nI 0),(sA 52 0 1 1),sN,(nI 0),(nI 1),(nI 0),(nI 0),(nI 0),(nI 0),(nI 0),(nI 0),(nI 0),(nI 0),(nI 0),(nI 0),(nI 0),(nI 0),sN],0,false⟩),
  (36,⟨[(nI 0),bF,sN,(nI 0),bF,bF,(nI 0),sN,(nI 0),bT,(sA 208 0 1 1),(nI 1),bF,bF,(nI 1),sN,(nI 0),bF,sN,(nI 0),bF,bF,(nI 0),sN,(nI 0),bF,sN,(nI 0),bF,bF,(nI 0),sN,(nI 0),bF,sN,(nI 0),bF,bF,(nI 0),sN,(nI 0),bF,sN,(nI 0),bF,bF,(nI 0),sN,(nI 0),bF,sN,(nI 0),bF,bF,(nI 0),sN,(nI 0)],0,false⟩),
  (37,⟨[sN,(nI 0),(nI 1),sN,sN,(pA 36 0),(pA 42 0),(pA 44 0),sN,(sA 157 0 1 1),(sA 164 0 1 1),(sA 186 0 1 1),(pA 189 0),sN,pN,(pA 203 0),pN,pN,pN,pN,pN,sN],0,false⟩),
  (42,⟨[sN,(nI 1),(nI 1),(nI 1),(nI 1),(nI 0),(nI 0),(nI 0),(nI 0),(nI 0),(nI 0),(nI 0),(nI 0),(nI 0),sN,sN],0,false⟩),
  (44,⟨[bT,sN,(sA 151 0 0 0),(nI 1),bF,bF,sN],0,false⟩),
  (52,⟨[(pA 37 0)],1,true⟩),
  (151,⟨[],1,false⟩),
  (157,⟨[(nI 1),(nI 0),(nI 1),sN],4,true⟩),
  (162,⟨[(nI 1)],1,true⟩),
  (164,⟨[sN,(sA 162 0 1 1)],2,true⟩),
  (186,⟨[(nI 0),(nI 0),(nI 0)],3,true⟩),
  (187,⟨[bT],1,false⟩),
  (188,⟨[(nI 0)],1,false⟩),
  (189,⟨[(sA 187 0 1 1),(sA 188 0 1 1)],0,false⟩),
  (202,⟨[(nI 0),(nI 1)],2,true⟩),
  (203,⟨[(nI 1),(sA 202 0 1 1),sN],0,false⟩),
  (208,⟨[(nI 1),(nI 0),(nI 1),sN],4,true⟩)]
  next2 := 222

noncomputable def c0 : Ctx := ctx.wit lib []
theorem ok0 : okE c0 200000 e0 = true := by decide +kernel
noncomputable def e1 : Ent where
  f := 33
  args := [(pA 26 0),(sB [112,117,98,32,49,32,97,61,53])]
  pre := [(26,⟨[sN,(nI 1),(nI 1),(nI 1),(nI 1),(nI 0),(sA 52 0 1 1),sN,(nI 0),(nI 1),(nI 0),(nI 0),(nI 0),(nI 0),(nI 0),(nI 0),(nI 0),(nI 0),(nI 0),(nI 0),(nI 0),(nI 0),sN],0,false⟩),
  (36,⟨[(nI 0),bF,sN,(nI 0),bF,bF,(nI 0),sN,(nI 0),bT,(sA 208 0 1 1),(nI 1),bF,bF,(nI 1),sN,(nI 0),bF,sN,(nI 0),bF,bF,(nI 0),sN,(nI 0),bF,sN,(nI 0),bF,bF,(nI 0),sN,(nI 0),bF,sN,(nI 0),bF,bF,(nI 0),sN,(nI 0),bF,sN,(nI 0),bF,bF,(nI 0),sN,(nI 0),bF,sN,(nI 0),bF,bF,(nI 0),sN,(nI 0)],0,false⟩),
  (37,⟨[sN,(nI 0),(nI 1),sN,sN,(pA 36 0),(pA 42 0),(pA 44 0),sN,(sA 157 0 1 1),(sA 164 0 1 1),(sA 186 0 1 1),(pA 189 0),sN,pN,(pA 203 0),pN,pN,pN,pN,pN,sN],0,false⟩),
  (42,⟨[sN,(nI 1),(nI 1),(nI 1),(nI 1),(nI 0),(nI 0),(nI 0),(nI 0),(nI 0),(nI 0),(nI 0),(nI 0),(nI 0),sN,sN],0,false⟩),
  (44,⟨[bT,sN,(sA 151 0 0 0),(nI 1),bF,bF,sN],0,false⟩),
  (52,⟨[(pA 37 0)],1,true⟩),
  (157,⟨[(nI 1),(nI 0),(nI 1),sN],4,true⟩),
  (162,⟨[(nI 1)],1,true⟩),
  (164,⟨[sN,(sA 162 0 1 1)],2,true⟩),
  (186,⟨[(nI 0),(nI 0),(nI 0)],3,true⟩),
  (187,⟨[bT],1,false⟩),
  (188,⟨[(nI 0)],1,false⟩),
  (189,⟨[(sA 187 0 1 1),(sA 188 0 1 1)],0,false⟩),
  (202,⟨[(nI 0),(nI 1)],2,true⟩),
  (203,⟨[(nI 1),(sA 202 0 1 1),sN],0,false⟩)]
  next := 225
  r := .ret (sB [111,107,32,49])
  post := [(26,⟨[sN,(nI 1),(nI 1),(nI 1),(nI 1),(nI 0),(sA 52 0 1 1),sN,(nI 0),(nI 1),(nI 0),(nI 0),(nI 0),(nI 0),(nI 0),(nI 0),(nI 1),(nI 0),(nI 0),(nI 0),(nI 0),(nI 0),(sA 386 0 2 2)],0,false⟩),
  (36,⟨[(nI 0),bF,sN,(nI 0),bF,bF,(nI 0),sN,(nI 0),bT,(sA 208 0 1 1),(nI 1),bF,bF,(nI 1),(sA 365 0 1 1),(nI 0),bF,sN,(nI 0),bF,bF,(nI 0),sN,(nI 0),bF,sN,(nI 0),bF,bF,(nI 0),sN,(nI 0),bF,sN,(nI 0),bF,bF,(nI 0),sN,(nI 0),bF,sN,(nI 0),bF,bF,(nI 0),sN,(nI 0),bF,sN,(nI 0),bF,bF,(nI 0),sN,(nI 0)],0,false⟩),
  (37,⟨[sN,(nI 0),(nI 1),sN,sN,(pA 36 0),(pA 42 0),(pA 44 0),sN,(sA 157 0 1 1),(sA 164 0 1 1),(sA 186 0 1 1),(pA 189 0),sN,pN,(pA 203 0),pN,pN,pN,pN,pN,(sA 338 0 0 0)],0,false⟩),
  (42,⟨[sN,(nI 1),(nI 1),(nI 1),(nI 1),(nI 0),(nI 0),(nI 0),(nI 1),(nI 0),(nI 0),(nI 0),(nI 0),(nI 0),(sA 282 0 0 0),(sA 286 0 0 0)],0,false⟩),
  (44,⟨[bT,sN,(sA 151 0 0 0),(nI 1),bF,bF,sN],0,false⟩),
  (52,⟨[(pA 37 0)],1,true⟩),
  (157,⟨[(nI 1),(nI 0),(nI 1),sN],4,true⟩),
  (162,⟨[(nI 1)],1,true⟩),
  (164,⟨[sN,(sA 162 0 1 1)],2,true⟩),
  (186,⟨[(nI 0),(nI 0),(nI 0)],3,true⟩),
  (187,⟨[bT],1,false⟩),
  (188,⟨[(nI 1)],1,false⟩),
  (189,⟨[(sA 187 0 1 1),(sA 188 0 1 1)],0,false⟩),
  (202,⟨[(nI 0),(nI 1)],2,true⟩),
  (203,⟨[(nI 1),(sA 353 0 1 1),(sA 335 0 0 0)],0,false⟩),
  (280,⟨[(sB [97]),(nI 1),(nI 5),(.float .f64 0),sE,bF],6,true⟩),
  (282,⟨[(nI 1),(nI 0),(nI 1),(nI 0),(nI 0),(sA 280 0 1 1),sN],7,true⟩),
  (286,⟨[(nI 1),(nI 1),bT,bT,sN],5,true⟩),
  (332,⟨[(sB [97]),(nI 1),(nI 5),(.float .f64 0),sE,bF],6,true⟩),
  (333,⟨[(nI 0),(nI 1)],2,true⟩),
  (335,⟨[(nI 1),(nI 0),(nI 1),(nI 1),(nI 1),(sA 332 0 1 1),(sA 333 0 1 1)],7,true⟩),
  (338,⟨[(nI 1),(nI 1),(nI 0)],3,true⟩),
  (353,⟨[(nI 0),(nI 2)],2,true⟩),
  (363,⟨[(sB [97]),(nI 1),(nI 5),(.float .f64 0),sE,bF],6,true⟩),
  (365,⟨[(nI 1),(nI 1),(nI 1),(sA 363 0 1 1)],4,true⟩),
  (386,⟨[bT,(nI 1),(nI 1),(nI 1),bF,(nI 1),(nI 1),(nI 1)],4,true⟩)]
  next2 := 391

noncomputable def c1 : Ctx := ctx.wit lib [e0]
theorem ok1 : okE c1 200000 e1 = true := by decide +kernel
noncomputable def e2 : Ent where
  f := 8
  args := [(.agg ⟨[sN,(nI 1),(nI 1),(nI 1),(nI 1),(nI 0)]⟩),(sB [97,116,116,97,99,104,32,49,32,48,10,115,117,98,32,49,10,112,117,98,32,49,32,97,61,53,10,112,111,108,108,32,49,10,10,108,111,103,32,49,10,108,111,103,32,50,10,98,97,103,10,114,111,117,110,100,10,115,101,116,116,108,101,10,112,111,108,108,32,49,10,119,104,97,116])]
  pre := []
  next := 20
  r := .ret (sB [111,107,10,111,107,32,49,10,111,107,32,49,10,111,107,32,49,32,49,32,49,32,97,61,53,10,10,111,107,32,49,46,49,10,101,114,114,111,114,32,52,10,111,107,10,111,107,10,111,107,32,48,10,101,114,114,111,114,32,52,10,101,114,114,111,114,32,51,10])
  post := []
  next2 := 652

noncomputable def c2 : Ctx := ctx.wit lib [e1, e0]
theorem ok2 : okE c2 200000 e2 = true := by decide +kernel
end Ev
